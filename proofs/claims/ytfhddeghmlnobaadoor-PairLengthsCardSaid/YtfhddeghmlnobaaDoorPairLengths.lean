/- conduitlaw3.PairLengths answers true at all arguments, where the package errors' variable holds what it was given. Condition: that. -/
import Derived.Test.YtfhddeghmlnobaaDoorKnown3
import Derived.Test.YtfhddeghmlnobaaDoorPairLong
namespace Go.Proofs.YtfhddeghmlnobaaDoor
open Go.RowKit

theorem lengths_want (k : Nat) (X Y : Bs) (h : (X.length = 1 ∧ Y.length = k) ∨ (X.length = k ∧ Y.length = 1)) (hk : k < 700) :
    ((pairB [(X, Y)]).length : Int) = if (128 : Int) ≤ k then 6 + (k : Int) else 3 + k := by
  have e : (pairB [(X, Y)]).length = (lenB X.length).length + ((lenB Y.length).length + (X.length + Y.length)) := by simp [pairB]
  have hl : ∀ n : Nat, (lenB (n : Int)).length = if (n : Int) < 128 then 1 else 4 := by intro n; unfold lenB; split <;> rfl
  rw [e, hl, hl]
  rcases h with ⟨h1, h2⟩ | ⟨h1, h2⟩ <;> rw [h1, h2] <;> split <;> split <;> (try split) <;> omega
theorem lenB_want (k : Nat) (hk : k < 700) : ((lenB (k : Int)).length : Int) = if (128 : Int) ≤ k then 4 else 1 := by
  unfold lenB
  split <;> split <;> (first | rfl | omega)

theorem heap_keep {w : World} (x : Obj) {i : Nat} {o : Obj} (h : w.heap[i]? = some o) : (w.alloc x).heap[i]? = some o := by rw [heap_alloc_old w x (box_lt h)]; exact h

set_option maxRecDepth 100000 in
set_option maxHeartbeats 4000000 in
theorem ps_any (n : Int) (name : Bool) (w : World) (hn0 : 0 ≤ n) (hn1 : n < 65536) (hg : w.cell? ⟨0, 0, none⟩ = some errTypeV) :
    Calls Tryd.prog 4 #[.int .u16 n, .bool name] w fun e w' => e = .returned (.bool true) ∧ Below w.heap.size w w' := by
  have hg' : ∀ w', Below w.heap.size w w' → w'.cell? ⟨0, 0, none⟩ = some errTypeV := fun w' hb => by rw [hb.cell (World.block_lt_of_cell? w _ hg)]; exact hg
  have HG := Lib.hid hg'
  clear hg hg'
  obtain ⟨k, hk, hk1⟩ : ∃ k : Nat, n % 700 = (k : Int) ∧ k < 700 := ⟨(n % 700).toNat, by omega, by omega⟩
  have hk0 : (0 : Int) ≤ k := by omega
  have hmk : ∀ w, (Instr.makeSlice 36 (.int .i64 (k : Int)) (.int .i64 (k : Int))).run Tryd.prog w = .ok (.slice (some ⟨w.heap.size, 0, none⟩) k k) (w.alloc (.cells (madeCells #[.int .u8 0] k) 5)) := fun w => by
    have := make_bytes w (k : Int) (by omega) (by omega)
    rwa [Int.toNat_natCast] at this
  have htx := fun w => text_made w k (by unfold maxLen; omega)
  have HW := Lib.hid (fun X Y => lengths_want k X Y)
  have hlw := lenB_want k hk1
  have hLn := fun w => len_any (k : Int) w hk0 (by omega)
  have HLn := Lib.hid hLn
  have HLW := Lib.hid hlw
  clear hLn hlw
  have hz : (List.replicate k (0 : UInt8)).length = k := List.length_replicate
  cases name
  · go_enter Tryd.func4, Tryd.ntmps4
    go_wp2_with fail
    refine (known3 _ (HG.out _ (Below.refl _ _))).mono ?_
    rintro e w1 ⟨rfl, W1⟩
    go_wp2_with fail
    clear htx hmk
    have hXY : ((([110] : Bs)).length = 1 ∧ (List.replicate k (0 : UInt8)).length = k) ∨ ((([110] : Bs)).length = k ∧ (List.replicate k (0 : UInt8)).length = 1) := by simp
    generalize ([110] : Bs) = X at *
    generalize List.replicate k (0 : UInt8) = Y at *
    obtain ⟨u, hu⟩ : ∃ u, u = ((w1.alloc (.cells (madeCells #[.int .u8 0] k) 5)).alloc (.cells #[.string (bs X), .string (bs Y)] 26)).alloc (.cells #[.string (bs X), .string (bs Y)] 26) := ⟨_, rfl⟩
    have bT : u.heap[w1.heap.size + 1]? = some (.cells #[.string (bs X), .string (bs Y)] 26) := by rw [hu]; exact heap_keep _ (heap_alloc2_new w1 _ _)
    have bS : u.heap[w1.heap.size + 1 + 1]? = some (.cells #[.string (bs X), .string (bs Y)] 26) := by rw [hu]; exact (by have h := heap_alloc_new ((w1.alloc (.cells (madeCells #[.int .u8 0] k) 5)).alloc (.cells #[.string (bs X), .string (bs Y)] 26)) (.cells #[.string (bs X), .string (bs Y)] 26); simpa using h)
    have W2 : Below w.heap.size w u := by rw [hu]; exact below_later W1 (below_later (below_later (below_alloc _ _) (below_alloc _ _)) (below_alloc _ _))
    rw [← hu]
    clear hu
    have hXl : X.length ≤ 100000 ∧ Y.length ≤ 100000 := by omega
    have hw := HW.out X Y hXY
    refine (pbytes_some (w1.heap.size + 1 + 1) 0 1 [(X, Y)] u (by simp) (fun _ => box_lt bS) (by simpa using hXl) ?_).mono ?_
    · intro j hj
      have : j = 0 := by simpa using hj
      subst this
      exact ⟨box_cells bS 0, box_cells bS 1⟩
    rintro e w3 ⟨rfl, hb⟩
    replace bT := kept bT hb
    have W3 := below_later W2 hb
    have hR := fun u hg => pread_any (pairB [(X, Y)]) u hg
    rw [readP_pairs [(X, Y)] 0 (by intro p hp; simp at hp; subst hp; exact ⟨by simp; omega, by simp; omega⟩) (by simp)] at hR
    simp only [errV_zero, List.length_cons, List.length_nil] at hR
    have HR := Lib.hid hR
    clear hb bS W2 W1 hR hXY hXl
    generalize pairB [(X, Y)] = S at *
    generalize w1.heap.size + 1 = BT at *
    have hlw := HLW.out
    by_cases hkb : (128 : Int) ≤ k
    all_goals
      first | rw [if_pos hkb] at hw hlw | rw [if_neg hkb] at hw hlw
      have qa : ((6 : Int) + (k : Int) == 3 + (k : Int) + 3) = true := by simp; omega
      have qb : ((4 : Int) == 3 + (k : Int) + 3 - 2 - (k : Int)) = true := by simp; omega
      have qc : ((1 : Int) == 3 + (k : Int) - 2 - (k : Int)) = true := by simp; omega
      first
      | (have qk : decide ((128 : Int) ≤ (k : Int)) = true := by simp; omega)
      | (have qk : decide ((128 : Int) ≤ (k : Int)) = false := by simp; omega)
      go_wp2_with fail
      refine (HR.out _ (HG.out _ W3)).mono ?_
      rintro e w4 ⟨v4, rfl, o4, hb⟩
      replace bT := kept bT hb
      have W4 := below_later W3 hb
      obtain ⟨g, cap, rfl, _, hz, hc⟩ := own_open o4 (by simp)
      have d0 : w4.cell? ⟨g, 0, none⟩ = some (.string (bs X)) := hc 0 _ rfl
      have d1 : w4.cell? ⟨g, 1, none⟩ = some (.string (bs Y)) := hc 1 _ rfl
      clear hc o4 hb W3
      go_wp2_with fail
      have hS : ∀ wx, Rg.Step (fun _ => ∃ _ : Nat, False) w4 wx → wx.cell? ⟨BT, 0, none⟩ = some (.string (bs X)) ∧ wx.cell? ⟨BT, 1, none⟩ = some (.string (bs Y)) ∧ wx.cell? ⟨g, 0, none⟩ = some (.string (bs X)) ∧ wx.cell? ⟨g, 1, none⟩ = some (.string (bs Y)) := by
        intro wx hs
        have h := Rg.step_below hs
        have e0 := box_cells (kept bT h)
        exact ⟨e0 0, e0 1, by rw [h.cell hz]; exact d0, by rw [h.cell hz]; exact d1⟩
      generalize lenB (k : Int) = T at *
      refine Rg.region0 69 [.val ?_, .val ?_, .val ?_, .val ?_, .val ?_, .val ?_, .val ?_, .val ?_, .val ?_, .val ?_, .val ?_, .val ?_, .val ?_, .val ?_, .val ?_, .val ?_, .val ?_, .val ?_, .val ?_, .val ?_, .val ?_, .val ?_, .val (.string (bs T)), .val ?_, .val ?_, .val ?_, .val ?_, .val ?_, .val ?_, .val ?_, .val ?_] (by kernel_rfl) (by decide +kernel) (by simp) rfl ?hstab ?hchain ?hend
      case hstab => exact Rg.stable_val (Rg.stable_val (Rg.stable_val (Rg.stable_val (Rg.stable_val (Rg.stable_val (Rg.stable_val (Rg.stable_val (Rg.stable_val (Rg.stable_val (Rg.stable_val (Rg.stable_val (Rg.stable_val (Rg.stable_val (Rg.stable_val (Rg.stable_val (Rg.stable_val (Rg.stable_val (Rg.stable_val (Rg.stable_val (Rg.stable_val (Rg.stable_val (Rg.stable_val (Rg.stable_val (Rg.stable_val (Rg.stable_val (Rg.stable_val (Rg.stable_val (Rg.stable_val (Rg.stable_val (Rg.stable_val (Rg.stable_nil)))))))))))))))))))))))))))))))
      case hchain =>
        intro vs
        -- 0: slot 39 := Op.move t7
        refine Rg.Chain.pure rfl (fun w => by go_simp; (try go_ints); with_reducible rfl) ?_
        simp only [Act.put, List.setIfInBounds_toArray, List.set_cons_succ, List.set_cons_zero]
        -- 1: slot 40 := Op.call ( builtin len, args := #[t39], argTypes := #[9] )
        refine Rg.Chain.pure rfl (fun w => by go_simp; (try go_ints); with_reducible rfl) ?_
        simp only [Act.put, List.setIfInBounds_toArray, List.set_cons_succ, List.set_cons_zero]
        -- 2: slot 41 := Op.move t8
        refine Rg.Chain.pure rfl (fun w => by go_simp; (try go_ints); with_reducible rfl) ?_
        simp only [Act.put, List.setIfInBounds_toArray, List.set_cons_succ, List.set_cons_zero]
        -- 3: slot 42 := Op.binOp BinOp.eql 3 t40 t41 3
        refine Rg.Chain.pure rfl (fun w => by go_simp; (try go_ints); with_reducible rfl) ?_
        simp only [Act.put, List.setIfInBounds_toArray, List.set_cons_succ, List.set_cons_zero]
        -- 4: slot 43 := Op.move t42
        refine Rg.Chain.pure rfl (fun w => by go_simp; (try go_ints); with_reducible rfl) ?_
        simp only [Act.put, List.setIfInBounds_toArray, List.set_cons_succ, List.set_cons_zero]
        -- 5: slot 44 := Op.move t10   [guarded: some (4, true)]
        refine Rg.Chain.pure rfl (fun w => by go_simp; (try go_ints); with_reducible rfl) ?_
        simp only [Act.put, List.setIfInBounds_toArray, List.set_cons_succ, List.set_cons_zero]
        -- 6: slot 45 := Op.binOp BinOp.eql 29 t44 (const Value.nilIface) 29   [guarded: some (4, true)]
        refine Rg.Chain.pure rfl (fun w => by go_simp; (try go_ints); with_reducible rfl) ?_
        simp only [Act.put, List.setIfInBounds_toArray, List.set_cons_succ, List.set_cons_zero]
        -- 7: slot 46 := Op.pick t43 t45 (const (Value.bool false))
        refine Rg.Chain.pure rfl (fun w => by go_simp; (try go_ints); with_reducible rfl) ?_
        simp only [Act.put, List.setIfInBounds_toArray, List.set_cons_succ, List.set_cons_zero]
        -- 8: slot 47 := Op.move t46
        refine Rg.Chain.pure rfl (fun w => by go_simp; (try go_ints); with_reducible rfl) ?_
        simp only [Act.put, List.setIfInBounds_toArray, List.set_cons_succ, List.set_cons_zero]
        -- 9: slot 48 := Op.move t9   [guarded: some (8, true)]
        refine Rg.Chain.pure rfl (fun w => by go_simp; (try go_ints); with_reducible rfl) ?_
        simp only [Act.put, List.setIfInBounds_toArray, List.set_cons_succ, List.set_cons_zero]
        -- 10: slot 49 := Op.call ( builtin len, args := #[t48], argTypes := #[22] )   [guarded: some (8, true)]
        refine Rg.Chain.pure rfl (fun w => by go_simp; (try go_ints); with_reducible rfl) ?_
        simp only [Act.put, List.setIfInBounds_toArray, List.set_cons_succ, List.set_cons_zero]
        -- 11: slot 50 := Op.binOp BinOp.eql 3 t49 (const (1:i64)) 3   [guarded: some (8, true)]
        refine Rg.Chain.pure rfl (fun w => by go_simp; (try go_ints); with_reducible rfl) ?_
        simp only [Act.put, List.setIfInBounds_toArray, List.set_cons_succ, List.set_cons_zero]
        -- 12: slot 51 := Op.pick t47 t50 (const (Value.bool false))
        refine Rg.Chain.pure rfl (fun w => by go_simp; (try go_ints); with_reducible rfl) ?_
        simp only [Act.put, List.setIfInBounds_toArray, List.set_cons_succ, List.set_cons_zero]
        -- 13: slot 52 := Op.move t51
        refine Rg.Chain.pure rfl (fun w => by go_simp; (try go_ints); with_reducible rfl) ?_
        simp only [Act.put, List.setIfInBounds_toArray, List.set_cons_succ, List.set_cons_zero]
        -- 14: slot 53 := Op.move t9   [guarded: some (13, true)]
        refine Rg.Chain.pure rfl (fun w => by go_simp; (try go_ints); with_reducible rfl) ?_
        simp only [Act.put, List.setIfInBounds_toArray, List.set_cons_succ, List.set_cons_zero]
        -- 15: slot 54 := Op.indexAddr 22 t53 (const (0:i64))   [guarded: some (13, true)]
        refine Rg.Chain.pure rfl (fun w => by go_simp; (try go_ints); with_reducible rfl) ?_
        simp only [Act.put, List.setIfInBounds_toArray, List.set_cons_succ, List.set_cons_zero]
        -- 16: slot 55 := Op.load 26 t54   [guarded: some (13, true)]
        refine Rg.Chain.read rfl (fun wx hs => by obtain ⟨q0, q1, q2, q3⟩ := hS wx hs; go_simp; with_reducible rfl) ?_
        simp only [Act.put, List.setIfInBounds_toArray, List.set_cons_succ, List.set_cons_zero]
        -- 17: slot 56 := Op.load 26 t6   [guarded: some (13, true)]
        refine Rg.Chain.read rfl (fun wx hs => by obtain ⟨q0, q1, q2, q3⟩ := hS wx hs; go_simp; with_reducible rfl) ?_
        simp only [Act.put, List.setIfInBounds_toArray, List.set_cons_succ, List.set_cons_zero]
        -- 18: slot 57 := Op.binOp BinOp.eql 26 t55 t56 26   [guarded: some (13, true)]
        refine Rg.Chain.pure rfl (fun w => by go_simp; (try go_ints); with_reducible rfl) ?_
        simp only [Act.put, List.setIfInBounds_toArray, List.set_cons_succ, List.set_cons_zero]
        -- 19: slot 58 := Op.pick t52 t57 (const (Value.bool false))
        refine Rg.Chain.pure rfl (fun w => by go_simp; (try go_ints); with_reducible rfl) ?_
        simp only [Act.put, List.setIfInBounds_toArray, List.set_cons_succ, List.set_cons_zero]
        -- 20: slot 59 := Op.move t58
        refine Rg.Chain.pure rfl (fun w => by go_simp; (try go_ints); with_reducible rfl) ?_
        simp only [Act.put, List.setIfInBounds_toArray, List.set_cons_succ, List.set_cons_zero]
        -- 21: slot 60 := Op.move t5   [guarded: some (20, true)]
        refine Rg.Chain.pure rfl (fun w => by go_simp; (try go_ints); with_reducible rfl) ?_
        simp only [Act.put, List.setIfInBounds_toArray, List.set_cons_succ, List.set_cons_zero]
        -- 22: slot 61 := Op.call ( value (Operand.func 18), args := #[t60], argTypes := #[3] )   [guarded: some (20
        refine Rg.Chain.call ?_ ?_ rfl (fun w => ?_) (fun wx hs => ?_) ?_
        rotate_left 2
        · go_simp; (try go_ints); constructor <;> with_reducible rfl
        · exact HLn.out wx
        simp only [Act.put, List.setIfInBounds_toArray, List.set_cons_succ, List.set_cons_zero]
        -- 23: slot 62 := Op.call ( builtin len, args := #[t61], argTypes := #[9] )   [guarded: some (20, true)]
        refine Rg.Chain.pure rfl (fun w => by go_simp; (try go_ints); with_reducible rfl) ?_
        simp only [Act.put, List.setIfInBounds_toArray, List.set_cons_succ, List.set_cons_zero]
        -- 24: slot 63 := Op.move t8   [guarded: some (20, true)]
        refine Rg.Chain.pure rfl (fun w => by go_simp; (try go_ints); with_reducible rfl) ?_
        simp only [Act.put, List.setIfInBounds_toArray, List.set_cons_succ, List.set_cons_zero]
        -- 25: slot 64 := Op.binOp BinOp.sub 3 t63 (const (2:i64)) 3   [guarded: some (20, true)]
        refine Rg.Chain.pure rfl (fun w => by go_simp; (try go_ints); with_reducible rfl) ?_
        simp only [Act.put, List.setIfInBounds_toArray, List.set_cons_succ, List.set_cons_zero]
        -- 26: slot 65 := Op.move t5   [guarded: some (20, true)]
        refine Rg.Chain.pure rfl (fun w => by go_simp; (try go_ints); with_reducible rfl) ?_
        simp only [Act.put, List.setIfInBounds_toArray, List.set_cons_succ, List.set_cons_zero]
        -- 27: slot 66 := Op.binOp BinOp.sub 3 t64 t65 3   [guarded: some (20, true)]
        refine Rg.Chain.pure rfl (fun w => by go_simp; (try go_ints); with_reducible rfl) ?_
        simp only [Act.put, List.setIfInBounds_toArray, List.set_cons_succ, List.set_cons_zero]
        -- 28: slot 67 := Op.binOp BinOp.eql 3 t62 t66 3   [guarded: some (20, true)]
        refine Rg.Chain.pure rfl (fun w => by go_simp; (try go_ints); with_reducible rfl) ?_
        simp only [Act.put, List.setIfInBounds_toArray, List.set_cons_succ, List.set_cons_zero]
        -- 29: slot 68 := Op.pick t59 t67 (const (Value.bool false))
        refine Rg.Chain.pure rfl (fun w => by go_simp; (try go_ints); with_reducible rfl) ?_
        simp only [Act.put, List.setIfInBounds_toArray, List.set_cons_succ, List.set_cons_zero]
        -- 30: slot 4 := Op.assign t68
        refine Rg.Chain.pure rfl (fun w => by go_simp; (try go_ints); with_reducible rfl) ?_
        simp only [Act.put, List.setIfInBounds_toArray, List.set_cons_succ, List.set_cons_zero]
        exact Rg.Chain.nil
      case hend =>
        intro vs F w5 hE
        have hb2 := Rg.step_below hE.step
        clear hE hS
        simp only [Rg.finalAct, Rg.slot_val, Act.put, List.setIfInBounds_toArray, List.set_cons_succ, List.set_cons_zero]
        go_wp2_with fail
        go_ret
        exact ⟨rfl, below_later W4 hb2⟩
  · go_enter Tryd.func4, Tryd.ntmps4
    go_wp2_with fail
    refine (known3 _ (HG.out _ (Below.refl _ _))).mono ?_
    rintro e w1 ⟨rfl, W1⟩
    have htx2 := htx (((w1.alloc (.cells (madeCells #[.int .u8 0] k) 5))).alloc (.cells #[.string (bs [110]), .string (bs (List.replicate k 0))] 26))
    rw [show (((w1.alloc (.cells (madeCells #[.int .u8 0] k) 5))).alloc (.cells #[.string (bs [110]), .string (bs (List.replicate k 0))] 26)).heap.size = w1.heap.size + 1 + 1 from by simp] at htx2
    go_wp2_with fail
    clear htx hmk
    clear htx2
    have hXY : ((List.replicate k (0 : UInt8)).length = 1 ∧ (([118] : Bs)).length = k) ∨ ((List.replicate k (0 : UInt8)).length = k ∧ (([118] : Bs)).length = 1) := by simp
    generalize List.replicate k (0 : UInt8) = X at *
    generalize ([118] : Bs) = Y at *
    obtain ⟨u, hu⟩ : ∃ u, u = (((w1.alloc (.cells (madeCells #[.int .u8 0] k) 5)).alloc (.cells #[.string (bs X), .string (bs Y)] 26)).alloc (.cells (madeCells #[.int .u8 0] k) 5)).alloc (.cells #[.string (bs X), .string (bs Y)] 26) := ⟨_, rfl⟩
    have bT : u.heap[w1.heap.size + 1]? = some (.cells #[.string (bs X), .string (bs Y)] 26) := by rw [hu]; exact heap_keep _ (heap_keep _ (heap_alloc2_new w1 _ _))
    have bS : u.heap[w1.heap.size + 1 + 1 + 1]? = some (.cells #[.string (bs X), .string (bs Y)] 26) := by rw [hu]; exact (by have h := heap_alloc_new (((w1.alloc (.cells (madeCells #[.int .u8 0] k) 5)).alloc (.cells #[.string (bs X), .string (bs Y)] 26)).alloc (.cells (madeCells #[.int .u8 0] k) 5)) (.cells #[.string (bs X), .string (bs Y)] 26); simpa using h)
    have W2 : Below w.heap.size w u := by rw [hu]; exact below_later W1 (below_later (below_later (below_later (below_alloc _ _) (below_alloc _ _)) (below_alloc _ _)) (below_alloc _ _))
    rw [← hu]
    clear hu
    have hXl : X.length ≤ 100000 ∧ Y.length ≤ 100000 := by omega
    have hw := HW.out X Y hXY
    refine (pbytes_some (w1.heap.size + 1 + 1 + 1) 0 1 [(X, Y)] u (by simp) (fun _ => box_lt bS) (by simpa using hXl) ?_).mono ?_
    · intro j hj
      have : j = 0 := by simpa using hj
      subst this
      exact ⟨box_cells bS 0, box_cells bS 1⟩
    rintro e w3 ⟨rfl, hb⟩
    replace bT := kept bT hb
    have W3 := below_later W2 hb
    have hR := fun u hg => pread_any (pairB [(X, Y)]) u hg
    rw [readP_pairs [(X, Y)] 0 (by intro p hp; simp at hp; subst hp; exact ⟨by simp; omega, by simp; omega⟩) (by simp)] at hR
    simp only [errV_zero, List.length_cons, List.length_nil] at hR
    have HR := Lib.hid hR
    clear hb bS W2 W1 hR hXY hXl
    generalize pairB [(X, Y)] = S at *
    generalize w1.heap.size + 1 = BT at *
    have hlw := HLW.out
    by_cases hkb : (128 : Int) ≤ k
    all_goals
      first | rw [if_pos hkb] at hw hlw | rw [if_neg hkb] at hw hlw
      have qa : ((6 : Int) + (k : Int) == 3 + (k : Int) + 3) = true := by simp; omega
      have qb : ((4 : Int) == 3 + (k : Int) + 3 - 2 - (k : Int)) = true := by simp; omega
      have qc : ((1 : Int) == 3 + (k : Int) - 2 - (k : Int)) = true := by simp; omega
      first
      | (have qk : decide ((128 : Int) ≤ (k : Int)) = true := by simp; omega)
      | (have qk : decide ((128 : Int) ≤ (k : Int)) = false := by simp; omega)
      go_wp2_with fail
      refine (HR.out _ (HG.out _ W3)).mono ?_
      rintro e w4 ⟨v4, rfl, o4, hb⟩
      replace bT := kept bT hb
      have W4 := below_later W3 hb
      obtain ⟨g, cap, rfl, _, hz, hc⟩ := own_open o4 (by simp)
      have d0 : w4.cell? ⟨g, 0, none⟩ = some (.string (bs X)) := hc 0 _ rfl
      have d1 : w4.cell? ⟨g, 1, none⟩ = some (.string (bs Y)) := hc 1 _ rfl
      clear hc o4 hb W3
      go_wp2_with fail
      have hS : ∀ wx, Rg.Step (fun _ => ∃ _ : Nat, False) w4 wx → wx.cell? ⟨BT, 0, none⟩ = some (.string (bs X)) ∧ wx.cell? ⟨BT, 1, none⟩ = some (.string (bs Y)) ∧ wx.cell? ⟨g, 0, none⟩ = some (.string (bs X)) ∧ wx.cell? ⟨g, 1, none⟩ = some (.string (bs Y)) := by
        intro wx hs
        have h := Rg.step_below hs
        have e0 := box_cells (kept bT h)
        exact ⟨e0 0, e0 1, by rw [h.cell hz]; exact d0, by rw [h.cell hz]; exact d1⟩
      generalize lenB (k : Int) = T at *
      refine Rg.region0 69 [.val ?_, .val ?_, .val ?_, .val ?_, .val ?_, .val ?_, .val ?_, .val ?_, .val ?_, .val ?_, .val ?_, .val ?_, .val ?_, .val ?_, .val ?_, .val ?_, .val ?_, .val ?_, .val ?_, .val ?_, .val ?_, .val ?_, .val (.string (bs T)), .val ?_, .val ?_, .val ?_, .val ?_, .val ?_, .val ?_, .val ?_, .val ?_] (by kernel_rfl) (by decide +kernel) (by simp) rfl ?hstab ?hchain ?hend
      case hstab => exact Rg.stable_val (Rg.stable_val (Rg.stable_val (Rg.stable_val (Rg.stable_val (Rg.stable_val (Rg.stable_val (Rg.stable_val (Rg.stable_val (Rg.stable_val (Rg.stable_val (Rg.stable_val (Rg.stable_val (Rg.stable_val (Rg.stable_val (Rg.stable_val (Rg.stable_val (Rg.stable_val (Rg.stable_val (Rg.stable_val (Rg.stable_val (Rg.stable_val (Rg.stable_val (Rg.stable_val (Rg.stable_val (Rg.stable_val (Rg.stable_val (Rg.stable_val (Rg.stable_val (Rg.stable_val (Rg.stable_val (Rg.stable_nil)))))))))))))))))))))))))))))))
      case hchain =>
        intro vs
        -- 0: slot 39 := Op.move t7
        refine Rg.Chain.pure rfl (fun w => by go_simp; (try go_ints); with_reducible rfl) ?_
        simp only [Act.put, List.setIfInBounds_toArray, List.set_cons_succ, List.set_cons_zero]
        -- 1: slot 40 := Op.call ( builtin len, args := #[t39], argTypes := #[9] )
        refine Rg.Chain.pure rfl (fun w => by go_simp; (try go_ints); with_reducible rfl) ?_
        simp only [Act.put, List.setIfInBounds_toArray, List.set_cons_succ, List.set_cons_zero]
        -- 2: slot 41 := Op.move t8
        refine Rg.Chain.pure rfl (fun w => by go_simp; (try go_ints); with_reducible rfl) ?_
        simp only [Act.put, List.setIfInBounds_toArray, List.set_cons_succ, List.set_cons_zero]
        -- 3: slot 42 := Op.binOp BinOp.eql 3 t40 t41 3
        refine Rg.Chain.pure rfl (fun w => by go_simp; (try go_ints); with_reducible rfl) ?_
        simp only [Act.put, List.setIfInBounds_toArray, List.set_cons_succ, List.set_cons_zero]
        -- 4: slot 43 := Op.move t42
        refine Rg.Chain.pure rfl (fun w => by go_simp; (try go_ints); with_reducible rfl) ?_
        simp only [Act.put, List.setIfInBounds_toArray, List.set_cons_succ, List.set_cons_zero]
        -- 5: slot 44 := Op.move t10   [guarded: some (4, true)]
        refine Rg.Chain.pure rfl (fun w => by go_simp; (try go_ints); with_reducible rfl) ?_
        simp only [Act.put, List.setIfInBounds_toArray, List.set_cons_succ, List.set_cons_zero]
        -- 6: slot 45 := Op.binOp BinOp.eql 29 t44 (const Value.nilIface) 29   [guarded: some (4, true)]
        refine Rg.Chain.pure rfl (fun w => by go_simp; (try go_ints); with_reducible rfl) ?_
        simp only [Act.put, List.setIfInBounds_toArray, List.set_cons_succ, List.set_cons_zero]
        -- 7: slot 46 := Op.pick t43 t45 (const (Value.bool false))
        refine Rg.Chain.pure rfl (fun w => by go_simp; (try go_ints); with_reducible rfl) ?_
        simp only [Act.put, List.setIfInBounds_toArray, List.set_cons_succ, List.set_cons_zero]
        -- 8: slot 47 := Op.move t46
        refine Rg.Chain.pure rfl (fun w => by go_simp; (try go_ints); with_reducible rfl) ?_
        simp only [Act.put, List.setIfInBounds_toArray, List.set_cons_succ, List.set_cons_zero]
        -- 9: slot 48 := Op.move t9   [guarded: some (8, true)]
        refine Rg.Chain.pure rfl (fun w => by go_simp; (try go_ints); with_reducible rfl) ?_
        simp only [Act.put, List.setIfInBounds_toArray, List.set_cons_succ, List.set_cons_zero]
        -- 10: slot 49 := Op.call ( builtin len, args := #[t48], argTypes := #[22] )   [guarded: some (8, true)]
        refine Rg.Chain.pure rfl (fun w => by go_simp; (try go_ints); with_reducible rfl) ?_
        simp only [Act.put, List.setIfInBounds_toArray, List.set_cons_succ, List.set_cons_zero]
        -- 11: slot 50 := Op.binOp BinOp.eql 3 t49 (const (1:i64)) 3   [guarded: some (8, true)]
        refine Rg.Chain.pure rfl (fun w => by go_simp; (try go_ints); with_reducible rfl) ?_
        simp only [Act.put, List.setIfInBounds_toArray, List.set_cons_succ, List.set_cons_zero]
        -- 12: slot 51 := Op.pick t47 t50 (const (Value.bool false))
        refine Rg.Chain.pure rfl (fun w => by go_simp; (try go_ints); with_reducible rfl) ?_
        simp only [Act.put, List.setIfInBounds_toArray, List.set_cons_succ, List.set_cons_zero]
        -- 13: slot 52 := Op.move t51
        refine Rg.Chain.pure rfl (fun w => by go_simp; (try go_ints); with_reducible rfl) ?_
        simp only [Act.put, List.setIfInBounds_toArray, List.set_cons_succ, List.set_cons_zero]
        -- 14: slot 53 := Op.move t9   [guarded: some (13, true)]
        refine Rg.Chain.pure rfl (fun w => by go_simp; (try go_ints); with_reducible rfl) ?_
        simp only [Act.put, List.setIfInBounds_toArray, List.set_cons_succ, List.set_cons_zero]
        -- 15: slot 54 := Op.indexAddr 22 t53 (const (0:i64))   [guarded: some (13, true)]
        refine Rg.Chain.pure rfl (fun w => by go_simp; (try go_ints); with_reducible rfl) ?_
        simp only [Act.put, List.setIfInBounds_toArray, List.set_cons_succ, List.set_cons_zero]
        -- 16: slot 55 := Op.load 26 t54   [guarded: some (13, true)]
        refine Rg.Chain.read rfl (fun wx hs => by obtain ⟨q0, q1, q2, q3⟩ := hS wx hs; go_simp; with_reducible rfl) ?_
        simp only [Act.put, List.setIfInBounds_toArray, List.set_cons_succ, List.set_cons_zero]
        -- 17: slot 56 := Op.load 26 t6   [guarded: some (13, true)]
        refine Rg.Chain.read rfl (fun wx hs => by obtain ⟨q0, q1, q2, q3⟩ := hS wx hs; go_simp; with_reducible rfl) ?_
        simp only [Act.put, List.setIfInBounds_toArray, List.set_cons_succ, List.set_cons_zero]
        -- 18: slot 57 := Op.binOp BinOp.eql 26 t55 t56 26   [guarded: some (13, true)]
        refine Rg.Chain.pure rfl (fun w => by go_simp; (try go_ints); with_reducible rfl) ?_
        simp only [Act.put, List.setIfInBounds_toArray, List.set_cons_succ, List.set_cons_zero]
        -- 19: slot 58 := Op.pick t52 t57 (const (Value.bool false))
        refine Rg.Chain.pure rfl (fun w => by go_simp; (try go_ints); with_reducible rfl) ?_
        simp only [Act.put, List.setIfInBounds_toArray, List.set_cons_succ, List.set_cons_zero]
        -- 20: slot 59 := Op.move t58
        refine Rg.Chain.pure rfl (fun w => by go_simp; (try go_ints); with_reducible rfl) ?_
        simp only [Act.put, List.setIfInBounds_toArray, List.set_cons_succ, List.set_cons_zero]
        -- 21: slot 60 := Op.move t5   [guarded: some (20, true)]
        refine Rg.Chain.pure rfl (fun w => by go_simp; (try go_ints); with_reducible rfl) ?_
        simp only [Act.put, List.setIfInBounds_toArray, List.set_cons_succ, List.set_cons_zero]
        -- 22: slot 61 := Op.call ( value (Operand.func 18), args := #[t60], argTypes := #[3] )   [guarded: some (20
        refine Rg.Chain.call ?_ ?_ rfl (fun w => ?_) (fun wx hs => ?_) ?_
        rotate_left 2
        · go_simp; (try go_ints); constructor <;> with_reducible rfl
        · exact HLn.out wx
        simp only [Act.put, List.setIfInBounds_toArray, List.set_cons_succ, List.set_cons_zero]
        -- 23: slot 62 := Op.call ( builtin len, args := #[t61], argTypes := #[9] )   [guarded: some (20, true)]
        refine Rg.Chain.pure rfl (fun w => by go_simp; (try go_ints); with_reducible rfl) ?_
        simp only [Act.put, List.setIfInBounds_toArray, List.set_cons_succ, List.set_cons_zero]
        -- 24: slot 63 := Op.move t8   [guarded: some (20, true)]
        refine Rg.Chain.pure rfl (fun w => by go_simp; (try go_ints); with_reducible rfl) ?_
        simp only [Act.put, List.setIfInBounds_toArray, List.set_cons_succ, List.set_cons_zero]
        -- 25: slot 64 := Op.binOp BinOp.sub 3 t63 (const (2:i64)) 3   [guarded: some (20, true)]
        refine Rg.Chain.pure rfl (fun w => by go_simp; (try go_ints); with_reducible rfl) ?_
        simp only [Act.put, List.setIfInBounds_toArray, List.set_cons_succ, List.set_cons_zero]
        -- 26: slot 65 := Op.move t5   [guarded: some (20, true)]
        refine Rg.Chain.pure rfl (fun w => by go_simp; (try go_ints); with_reducible rfl) ?_
        simp only [Act.put, List.setIfInBounds_toArray, List.set_cons_succ, List.set_cons_zero]
        -- 27: slot 66 := Op.binOp BinOp.sub 3 t64 t65 3   [guarded: some (20, true)]
        refine Rg.Chain.pure rfl (fun w => by go_simp; (try go_ints); with_reducible rfl) ?_
        simp only [Act.put, List.setIfInBounds_toArray, List.set_cons_succ, List.set_cons_zero]
        -- 28: slot 67 := Op.binOp BinOp.eql 3 t62 t66 3   [guarded: some (20, true)]
        refine Rg.Chain.pure rfl (fun w => by go_simp; (try go_ints); with_reducible rfl) ?_
        simp only [Act.put, List.setIfInBounds_toArray, List.set_cons_succ, List.set_cons_zero]
        -- 29: slot 68 := Op.pick t59 t67 (const (Value.bool false))
        refine Rg.Chain.pure rfl (fun w => by go_simp; (try go_ints); with_reducible rfl) ?_
        simp only [Act.put, List.setIfInBounds_toArray, List.set_cons_succ, List.set_cons_zero]
        -- 30: slot 4 := Op.assign t68
        refine Rg.Chain.pure rfl (fun w => by go_simp; (try go_ints); with_reducible rfl) ?_
        simp only [Act.put, List.setIfInBounds_toArray, List.set_cons_succ, List.set_cons_zero]
        exact Rg.Chain.nil
      case hend =>
        intro vs F w5 hE
        have hb2 := Rg.step_below hE.step
        clear hE hS
        simp only [Rg.finalAct, Rg.slot_val, Act.put, List.setIfInBounds_toArray, List.set_cons_succ, List.set_cons_zero]
        go_wp2_with fail
        go_ret
        exact ⟨rfl, below_later W4 hb2⟩
theorem ps_said (n : Int) (name : Bool) (w : World) (hn : 0 ≤ n ∧ n < 65536) (hg : w.cell? ⟨0, 0, none⟩ = some errTypeV) :
    Calls Tryd.prog 4 #[.int .u16 n, .bool name] w fun e w' => e = .returned (.bool true) ∧ Below w.heap.size w w' := ps_any n name w hn.1 hn.2 hg
end Go.Proofs.YtfhddeghmlnobaaDoor
