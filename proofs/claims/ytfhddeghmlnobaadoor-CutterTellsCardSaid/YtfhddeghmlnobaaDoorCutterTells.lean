/- conduitlaw5.CutterTells answers true at all arguments, where the package errors' variable holds what it was given. Condition: that. -/
import Derived.Test.YtfhddeghmlnobaaDoorKnown5
import Derived.Test.YtfhddeghmlnobaaDoorSameRecs
import Derived.Test.YtfhddeghmlnobaaDoorCode
import Derived.Test.YtfhddeghmlnobaaDoorOpenT
namespace Go.Proofs.YtfhddeghmlnobaaDoor
open Go.RowKit

theorem cutFeed_wait (most : Int) (d : Bool) (s c : Bs) : (cutFeed most d s c).2.2.1.length ≤ s.length + c.length := by
  unfold cutFeed
  split
  · simp only; omega
  · have := cutRun_wait most (s ++ c)
    rw [List.length_append] at this
    exact this
theorem recs_le (most : Int) (s : Bs) : (cutRun most s).1.length ≤ s.length := by
  fun_induction cutRun most s with
  | case1 s h ih => have := cutNext_lt most s h; simp only [List.length_cons]; omega
  | case2 s h h' => simp
  | case3 s h h' => simp
theorem cutFeed_recs (most : Int) (d : Bool) (s c : Bs) : (cutFeed most d s c).1.length ≤ s.length + c.length := by
  unfold cutFeed
  split
  · simp
  · have := recs_le most (s ++ c)
    rw [List.length_append] at this
    exact this

set_option maxRecDepth 100000 in
set_option maxHeartbeats 8000000 in
theorem ct_any (most : Int) (l : List Bs) (v : Value) (w : World) (hR : Reads w v 1 l.length (l.flatMap textCells)) (hF : ∀ p ∈ l, p.length ≤ maxLen) (hg : w.cell? ⟨0, 0, none⟩ = some errTypeV) :
    Calls Tryd.prog 7 #[.int .i64 most, v] w fun e w' => e = .returned (.bool true) ∧ Below w.heap.size w w' := by
  have hgl := World.block_lt_of_cell? w _ hg
  simp only at hgl
  have hg' : ∀ w', Below w.heap.size w w' → w'.cell? ⟨0, 0, none⟩ = some errTypeV := fun w' hb => by rw [hb.cell (World.block_lt_of_cell? w _ hg)]; exact hg
  have HG := Lib.hid hg'
  clear hg hg'
  have hlm := hR.2.1
  unfold maxLen at hlm
  obtain ⟨a, cap, rfl, h⟩ := hR.opened (fun _ _ => rfl) (by decide)
  have HH := Lib.hid h
  have HF := Lib.hid hF
  clear hR h hF
  go_enter Tryd.func7, Tryd.ntmps7
  go_wp2_with fail
  refine (known5 _ (HG.out _ (Below.refl _ _))).mono ?_
  rintro e w1 ⟨rfl, W1⟩
  by_cases h30 : 30 < l.length
  · have q1 : decide ((30 : Int) < (l.length : Int)) = true := by simp; omega
    go_wp2_with fail
    go_ret
    exact ⟨rfl, W1⟩
  have q1 : decide ((30 : Int) < (l.length : Int)) = false := by simp; omega
  go_wp2_with fail
  refine (cnew_any most _).mono ?_
  rintro e w2 ⟨rfl, hw2⟩
  have b1 : w2.heap[w1.heap.size]? = some (cutObj [] most false) := by rw [hw2]; exact heap_alloc_new w1 _
  have W2 : Below w.heap.size w w2 := by rw [hw2]; exact below_later W1 (below_alloc _ _)
  have hB1 := W1.size
  clear hw2 W1 q1
  have hz1 := box_lt b1
  generalize w1.heap.size = B1 at *
  go_wp2_with fail
  obtain ⟨u, hu⟩ : ∃ u, u = w2.alloc (rcutObj most [] false) := ⟨_, rfl⟩
  have e1 : u.heap[B1]? = some (cutObj [] most false) := by rw [hu]; exact keep_new _ b1
  have e2 : u.heap[w2.heap.size]? = some (rcutObj most [] false) := by rw [hu]; exact heap_alloc_new w2 _
  have W3 : Below w.heap.size w u := by rw [hu]; exact below_later W2 (below_alloc _ _)
  have hB2 := W2.size
  rw [← hu]
  clear hu b1 W2
  have hne12 : B1 ≠ w2.heap.size := by omega
  generalize w2.heap.size = B2 at *
  go_loopw [7] (fun i wr => ∃ k : Nat, k ≤ l.length ∧ i = .int .i64 k ∧ Below w.heap.size w wr ∧ ∃ (s : Bs) (d : Bool), wr.heap[B1]? = some (cutObj s most d) ∧ wr.heap[B2]? = some (rcutObj most s d) ∧ s.length ≤ 2000 * k) (fun i _ => l.length - (intOf i).toNat)
  case atStart => exact ⟨0, Nat.zero_le _, rfl, W3, [], false, e1, e2, by simp⟩
  case round =>
    obtain ⟨k, hk, rfl, hW, s, d, e1, e2, hsl⟩ := hrel
    by_cases hlt : k < l.length
    · obtain ⟨b, off, rfl, hbl, hc⟩ := HH.out (by omega)
      have c0 : w.cell? ⟨b, off + k, none⟩ = some (.string (bs l[k])) := by have := hc k hlt 0 _ rfl; rwa [Nat.mul_one, Nat.add_zero] at this
      rw [← hW.cell hbl] at c0
      have hz := Nat.lt_of_lt_of_le hbl hW.size
      have hfit := HF.out _ (List.getElem_mem hlt)
      unfold maxLen at hfit
      generalize l[k] = x at *
      clear hc
      by_cases hx : 2000 < x.length
      · have q3 : decide ((2000 : Int) < (x.length : Int)) = true := by simp; omega
        go_wp2_with fail
        go_ret
        exact ⟨rfl, hW⟩
      have q3 : decide ((2000 : Int) < (x.length : Int)) = false := by simp; omega
      have HFe := Lib.hid (fun w' h1 hg hne => cfeed_any B1 s x most d w' h1 hg hne (by omega))
      have HFr := Lib.hid (fun w' h1 => rcfeed_any B2 s x most d w' h1 (by omega))
      have hwt := cutFeed_wait most d s x
      have hrl := cutFeed_recs most d s x
      generalize cutFeed most d s x = q at *
      obtain ⟨L, C, S, D⟩ := q
      simp only at HFe HFr hwt hrl
      have hL : L.length ≤ 1000000000 := by omega
      have hS2 : S.length ≤ 2000 * (k + 1) := by omega
      clear hwt hrl
      have zB1 := box_lt e1
      have zB2 := box_lt e2
      go_wp2_with fail
      refine (HFe.out _ e1 (HG.out _ hW) (by omega)).mono ?_
      rintro e w3 ⟨v3, rfl, o3, f1, hon⟩
      have f2 := only_kept hon e2 (by omega)
      have W4 : Below w.heap.size w w3 := hW.trans (only_base hon hB1 hW.size)
      rw [← only_cell hon (a := ⟨b, off + k, none⟩) hz (by show b ≠ B1; omega)] at c0
      have hz3 := Nat.lt_of_lt_of_le hz hon.size
      clear hon e1 e2 hz
      go_wp2_with fail
      refine (HFr.out _ f2).mono ?_
      rintro e w4 ⟨v4, rfl, o4, g2, hon⟩
      have g1 := only_kept hon f1 (by omega)
      have W5 : Below w.heap.size w w4 := W4.trans (only_base hon hB2 W4.size)
      have o3' := own_only o3 hon zB2
      clear hon f1 f2 c0 hz3 W4 o3 hW
      go_wp2_with fail
      have hS : ∀ wx, Rg.Step (fun _ => ∃ _ : Nat, False) w4 wx → wx.cell? ⟨B2, 1, none⟩ = some (.string (bs S)) ∧ wx.cell? ⟨B2, 2, none⟩ = some (.bool D) := by
        intro wx hs
        have h := kept g2 (Rg.step_below hs)
        exact ⟨box_cells h 1, box_cells h 2⟩
      have hx1 : ∀ wx, Rg.Step (fun _ => ∃ _ : Nat, False) w4 wx → wx.heap[B1]? = some (cutObj S most D) := fun wx hs => kept g1 (Rg.step_below hs)
      have hx2 : ∀ wx, Rg.Step (fun _ => ∃ _ : Nat, False) w4 wx → B2 < wx.heap.size := fun wx hs => box_lt (kept g2 (Rg.step_below hs))
      have hGx : ∀ wx, Rg.Step (fun _ => ∃ _ : Nat, False) w4 wx → wx.cell? ⟨0, 0, none⟩ = some errTypeV := fun wx hs => HG.out wx (below_later W5 (Rg.step_below hs))
      have hR3 : ∀ wx, Rg.Step (fun _ => ∃ _ : Nat, False) w4 wx → Reads wx v3 4 L.length (recCells L) := fun wx hs => own_reads (own_kept o3' (Rg.step_below hs))
      have hR4 : ∀ wx, Rg.Step (fun _ => ∃ _ : Nat, False) w4 wx → Reads wx v4 4 L.length (recCells L) := fun wx hs => own_reads (own_kept o4 (Rg.step_below hs))
      refine Rg.region0 81 [.val ?_, .val ?_, .val (.bool true), .val ?_, .val ?_, .val ?_, .val (.int .i64 C), .val ?_, .val ?_, .val ?_, .val ?_, .val ?_, .val (.int .i64 S.length), .val ?_, .val ?_, .val ?_, .val ?_, .val ?_, .val ?_, .val ?_, .val ?_, .val ?_, .val (.bool D), .val ?_, .val ?_, .val ?_, .val ?_, .val ?_, .val ?_] (by kernel_rfl) (by decide +kernel) (by simp) rfl ?hstab ?hchain ?hend
      case hstab => exact Rg.stable_val (Rg.stable_val (Rg.stable_val (Rg.stable_val (Rg.stable_val (Rg.stable_val (Rg.stable_val (Rg.stable_val (Rg.stable_val (Rg.stable_val (Rg.stable_val (Rg.stable_val (Rg.stable_val (Rg.stable_val (Rg.stable_val (Rg.stable_val (Rg.stable_val (Rg.stable_val (Rg.stable_val (Rg.stable_val (Rg.stable_val (Rg.stable_val (Rg.stable_val (Rg.stable_val (Rg.stable_val (Rg.stable_val (Rg.stable_val (Rg.stable_val (Rg.stable_val (Rg.stable_nil)))))))))))))))))))))))))))))
      case hchain =>
        intro vs
        -- 0: slot 52 := Op.move t8
        refine Rg.Chain.pure rfl (fun w => by go_simp; (try go_ints); with_reducible rfl) ?_
        simp only [Act.put, List.setIfInBounds_toArray, List.set_cons_succ, List.set_cons_zero]
        -- 1: slot 53 := Op.move t10
        refine Rg.Chain.pure rfl (fun w => by go_simp; (try go_ints); with_reducible rfl) ?_
        simp only [Act.put, List.setIfInBounds_toArray, List.set_cons_succ, List.set_cons_zero]
        -- 2: slot 54 := Op.call ( value (Operand.func 23), args := #[t52, t53], argTypes := #[47, 47] )
        refine Rg.Chain.call ?_ ?_ rfl (fun w => ?_) (fun wx hs => ?_) ?_
        rotate_left 2
        · go_simp; (try go_ints); constructor <;> with_reducible rfl
        · exact same_any L v3 v4 wx hL (hR3 wx hs) (hR4 wx hs)
        simp only [Act.put, List.setIfInBounds_toArray, List.set_cons_succ, List.set_cons_zero]
        -- 3: slot 55 := Op.unOp UnOp.not 4 t54
        refine Rg.Chain.pure rfl (fun w => by go_simp; (try go_ints); with_reducible rfl) ?_
        simp only [Act.put, List.setIfInBounds_toArray, List.set_cons_succ, List.set_cons_zero]
        -- 4: slot 56 := Op.move t55
        refine Rg.Chain.pure rfl (fun w => by go_simp; (try go_ints); with_reducible rfl) ?_
        simp only [Act.put, List.setIfInBounds_toArray, List.set_cons_succ, List.set_cons_zero]
        -- 5: slot 57 := Op.move t9   [guarded: some (4, false)]
        refine Rg.Chain.pure rfl (fun w => by go_simp; (try go_ints); with_reducible rfl) ?_
        simp only [Act.put, List.setIfInBounds_toArray, List.set_cons_succ, List.set_cons_zero]
        -- 6: slot 58 := Op.call ( value (Operand.func 24), args := #[t57], argTypes := #[29] )   [guarded: some (4
        refine Rg.Chain.call ?_ ?_ rfl (fun w => ?_) (fun wx hs => ?_) ?_
        rotate_left 2
        · go_simp; (try go_ints); constructor <;> with_reducible rfl
        · exact code5_any C wx (hGx wx hs)
        simp only [Act.put, List.setIfInBounds_toArray, List.set_cons_succ, List.set_cons_zero]
        -- 7: slot 59 := Op.move t11   [guarded: some (4, false)]
        refine Rg.Chain.pure rfl (fun w => by go_simp; (try go_ints); with_reducible rfl) ?_
        simp only [Act.put, List.setIfInBounds_toArray, List.set_cons_succ, List.set_cons_zero]
        -- 8: slot 60 := Op.binOp BinOp.neq 3 t58 t59 3   [guarded: some (4, false)]
        refine Rg.Chain.pure rfl (fun w => by go_simp; (try go_ints); with_reducible rfl) ?_
        simp only [Act.put, List.setIfInBounds_toArray, List.set_cons_succ, List.set_cons_zero]
        -- 9: slot 61 := Op.pick t56 (const (Value.bool true)) t60
        refine Rg.Chain.pure rfl (fun w => by go_simp; (try go_ints); with_reducible rfl) ?_
        simp only [Act.put, List.setIfInBounds_toArray, List.set_cons_succ, List.set_cons_zero]
        -- 10: slot 62 := Op.move t61
        refine Rg.Chain.pure rfl (fun w => by go_simp; (try go_ints); with_reducible rfl) ?_
        simp only [Act.put, List.setIfInBounds_toArray, List.set_cons_succ, List.set_cons_zero]
        -- 11: slot 63 := Op.move t5   [guarded: some (10, false)]
        refine Rg.Chain.pure rfl (fun w => by go_simp; (try go_ints); with_reducible rfl) ?_
        simp only [Act.put, List.setIfInBounds_toArray, List.set_cons_succ, List.set_cons_zero]
        -- 12: slot 64 := Op.call ( value (Operand.func 25), args := #[t63], argTypes := #[42] )   [guarded: some (1
        refine Rg.Chain.call ?_ ?_ rfl (fun w => ?_) (fun wx hs => ?_) ?_
        rotate_left 2
        · go_simp; (try go_ints); constructor <;> with_reducible rfl
        · exact (cwaits_any B1 S most D wx (hx1 wx hs)).mono fun e w' h => ⟨h.1, by rw [h.2]; exact Below.refl _ _⟩
        simp only [Act.put, List.setIfInBounds_toArray, List.set_cons_succ, List.set_cons_zero]
        -- 13: slot 65 := Op.move t6   [guarded: some (10, false)]
        refine Rg.Chain.pure rfl (fun w => by go_simp; (try go_ints); with_reducible rfl) ?_
        simp only [Act.put, List.setIfInBounds_toArray, List.set_cons_succ, List.set_cons_zero]
        -- 14: slot 66 := Op.nilCheck t65   [guarded: some (10, false)]
        refine Rg.Chain.pure rfl (fun w => by go_simp; (try go_ints); with_reducible rfl) ?_
        simp only [Act.put, List.setIfInBounds_toArray, List.set_cons_succ, List.set_cons_zero]
        -- 15: slot 67 := Op.fieldAddr 46 t66 1   [guarded: some (10, false)]
        refine Rg.Chain.pure rfl (fun w => by go_simp; (try go_ints); with_reducible rfl) ?_
        simp only [Act.put, List.setIfInBounds_toArray, List.set_cons_succ, List.set_cons_zero]
        -- 16: slot 68 := Op.load 9 t67   [guarded: some (10, false)]
        refine Rg.Chain.read rfl (fun wx hs => by obtain ⟨q0, q1⟩ := hS wx hs; have z := hx2 wx hs; go_simp; with_reducible rfl) ?_
        simp only [Act.put, List.setIfInBounds_toArray, List.set_cons_succ, List.set_cons_zero]
        -- 17: slot 69 := Op.call ( builtin len, args := #[t68], argTypes := #[9] )   [guarded: some (10, false)]
        refine Rg.Chain.pure rfl (fun w => by go_simp; (try go_ints); with_reducible rfl) ?_
        simp only [Act.put, List.setIfInBounds_toArray, List.set_cons_succ, List.set_cons_zero]
        -- 18: slot 70 := Op.binOp BinOp.neq 3 t64 t69 3   [guarded: some (10, false)]
        refine Rg.Chain.pure rfl (fun w => by go_simp; (try go_ints); with_reducible rfl) ?_
        simp only [Act.put, List.setIfInBounds_toArray, List.set_cons_succ, List.set_cons_zero]
        -- 19: slot 71 := Op.pick t62 (const (Value.bool true)) t70
        refine Rg.Chain.pure rfl (fun w => by go_simp; (try go_ints); with_reducible rfl) ?_
        simp only [Act.put, List.setIfInBounds_toArray, List.set_cons_succ, List.set_cons_zero]
        -- 20: slot 72 := Op.move t71
        refine Rg.Chain.pure rfl (fun w => by go_simp; (try go_ints); with_reducible rfl) ?_
        simp only [Act.put, List.setIfInBounds_toArray, List.set_cons_succ, List.set_cons_zero]
        -- 21: slot 73 := Op.move t5   [guarded: some (20, false)]
        refine Rg.Chain.pure rfl (fun w => by go_simp; (try go_ints); with_reducible rfl) ?_
        simp only [Act.put, List.setIfInBounds_toArray, List.set_cons_succ, List.set_cons_zero]
        -- 22: slot 74 := Op.call ( value (Operand.func 26), args := #[t73], argTypes := #[42] )   [guarded: some (2
        refine Rg.Chain.call ?_ ?_ rfl (fun w => ?_) (fun wx hs => ?_) ?_
        rotate_left 2
        · go_simp; (try go_ints); constructor <;> with_reducible rfl
        · exact (cdead_any B1 S most D wx (hx1 wx hs)).mono fun e w' h => ⟨h.1, by rw [h.2]; exact Below.refl _ _⟩
        simp only [Act.put, List.setIfInBounds_toArray, List.set_cons_succ, List.set_cons_zero]
        -- 23: slot 75 := Op.move t6   [guarded: some (20, false)]
        refine Rg.Chain.pure rfl (fun w => by go_simp; (try go_ints); with_reducible rfl) ?_
        simp only [Act.put, List.setIfInBounds_toArray, List.set_cons_succ, List.set_cons_zero]
        -- 24: slot 76 := Op.nilCheck t75   [guarded: some (20, false)]
        refine Rg.Chain.pure rfl (fun w => by go_simp; (try go_ints); with_reducible rfl) ?_
        simp only [Act.put, List.setIfInBounds_toArray, List.set_cons_succ, List.set_cons_zero]
        -- 25: slot 77 := Op.fieldAddr 46 t76 2   [guarded: some (20, false)]
        refine Rg.Chain.pure rfl (fun w => by go_simp; (try go_ints); with_reducible rfl) ?_
        simp only [Act.put, List.setIfInBounds_toArray, List.set_cons_succ, List.set_cons_zero]
        -- 26: slot 78 := Op.load 4 t77   [guarded: some (20, false)]
        refine Rg.Chain.read rfl (fun wx hs => by obtain ⟨q0, q1⟩ := hS wx hs; have z := hx2 wx hs; go_simp; with_reducible rfl) ?_
        simp only [Act.put, List.setIfInBounds_toArray, List.set_cons_succ, List.set_cons_zero]
        -- 27: slot 79 := Op.binOp BinOp.neq 4 t74 t78 4   [guarded: some (20, false)]
        refine Rg.Chain.pure rfl (fun w => by go_simp; (try go_ints); with_reducible rfl) ?_
        simp only [Act.put, List.setIfInBounds_toArray, List.set_cons_succ, List.set_cons_zero]
        -- 28: slot 80 := Op.pick t72 (const (Value.bool true)) t79
        refine Rg.Chain.pure rfl (fun w => by go_simp; (try go_ints); with_reducible rfl) ?_
        simp only [Act.put, List.setIfInBounds_toArray, List.set_cons_succ, List.set_cons_zero]
        exact Rg.Chain.nil
      case hend =>
        intro vs F w5 hE
        have hb2 := Rg.step_below hE.step
        have k1 := kept g1 hb2
        have k2 := kept g2 hb2
        clear hE hS hx1 hx2 hGx hR3 hR4
        simp only [Rg.finalAct, Rg.slot_val, Act.put, List.setIfInBounds_toArray, List.set_cons_succ, List.set_cons_zero]
        go_wp2_with fail
        go_roundw
        case rel => exact ⟨k + 1, by omega, by go_num, below_later W5 hb2, S, D, k1, k2, hS2⟩
        case measure => simp [intOf]; omega
    · obtain rfl : k = l.length := by omega
      go_wp2_with fail
      go_ret
      exact ⟨rfl, hW⟩
end Go.Proofs.YtfhddeghmlnobaaDoor
