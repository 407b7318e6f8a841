/- What the reference's Pairs computes: pairs as bytes. Conditions: a slice of at most 1000 pairs of at most 100000 bytes each. -/
import Derived.Test.YtniflggmfegnfaaDoorPairs
import Derived.Test.YtniflggmfegnfaaDoorOpenP
namespace Go.Proofs.YtniflggmfegnfaaDoor
open Go.RowKit

set_option maxRecDepth 100000 in
set_option maxHeartbeats 4000000 in
theorem rpairs_some (b off cap : Nat) (l : List (Bs × Bs)) (w : World) (hn : l.length ≤ 1000) (hb : 0 < l.length → b < w.heap.size) (hF : ∀ p ∈ l, p.1.length ≤ 100000 ∧ p.2.length ≤ 100000)
    (hC : ∀ k (h : k < l.length), w.cell? ⟨b, off + k * 2, none⟩ = some (.string (bs l[k].1)) ∧ w.cell? ⟨b, off + k * 2 + 1, none⟩ = some (.string (bs l[k].2))) :
    Calls Tryd.prog 15 #[.slice (some ⟨b, off, none⟩) l.length cap] w fun e w' => e = .returned (.string (bs (pairB l))) ∧ Below w.heap.size w w' := by
  have hcell : ∀ wr, Below w.heap.size w wr → ∀ k (h : k < l.length), wr.cell? ⟨b, off + k * 2, none⟩ = some (.string (bs l[k].1)) ∧ wr.cell? ⟨b, off + k * 2 + 1, none⟩ = some (.string (bs l[k].2)) := by
    intro wr hbel k h
    rw [hbel.cell (hb (by omega)), hbel.cell (hb (by omega))]
    exact hC k h
  have HC := Lib.hid hcell
  clear hcell hC
  go_enter Tryd.func15, Tryd.ntmps15
  go_wp2_with fail
  go_loopw [3, 4] (fun s i wr => ∃ k : Nat, k ≤ l.length ∧ i = .int .i64 k ∧ s = .string (bs (pairB (l.take k))) ∧ Below w.heap.size w wr) (fun _ i _ => l.length - (intOf i).toNat)
  case atStart => exact ⟨0, Nat.zero_le _, rfl, rfl, Below.refl _ _⟩
  case round =>
    obtain ⟨k, hk, rfl, rfl, hW⟩ := hrel
    by_cases hlt : k < l.length
    · have hz := Nat.lt_of_lt_of_le (hb (by omega)) hW.size
      have hS : ∀ wx, Rg.Step (fun _ => ∃ _ : Nat, False) wr wx → wx.cell? ⟨b, off + k * 2, none⟩ = some (.string (bs l[k].1)) ∧ wx.cell? ⟨b, off + k * 2 + 1, none⟩ = some (.string (bs l[k].2)) := by
        intro wx hs
        exact HC.out wx (below_later hW (Rg.step_below hs)) k hlt
      have hp := hF _ (List.getElem_mem hlt)
      have hlen := pairB_le 100000 (l.take k) (fun p hp => hF p (List.mem_of_mem_take hp))
      have hts := pairB_take l k hlt
      rw [List.length_take] at hlen
      generalize l[k].1 = x at *
      generalize l[k].2 = y at *
      generalize pairB (l.take k) = z at *
      have hzl : z.length ≤ 200008000 := by
        have : min k l.length ≤ 1000 := by omega
        have := Nat.mul_le_mul_left (2 * 100000 + 8) this
        omega
      have lx := lenB_le x.length
      have ly := lenB_le y.length
      have HT := Lib.hid hts
      clear hlen hts
      go_wp2_with fail
      refine Rg.region0 41 [.val ?_, .val ?_, .val ?_, .val ?_, .val ?_, .val ?_, .val ?_, .val (.string (bs (lenB x.length))), .val ?_, .val ?_, .val ?_, .val ?_, .val ?_, .val ?_, .val ?_, .val (.string (bs (lenB y.length))), .val ?_, .val ?_, .val ?_, .val ?_, .val ?_, .val ?_, .val ?_, .val ?_, .val ?_, .val ?_, .val ?_, .val ?_, .val ?_, .val ?_] (by kernel_rfl) (by decide +kernel) (by simp) rfl ?hstab ?hchain ?hend
      case hstab => exact Rg.stable_val (Rg.stable_val (Rg.stable_val (Rg.stable_val (Rg.stable_val (Rg.stable_val (Rg.stable_val (Rg.stable_val (Rg.stable_val (Rg.stable_val (Rg.stable_val (Rg.stable_val (Rg.stable_val (Rg.stable_val (Rg.stable_val (Rg.stable_val (Rg.stable_val (Rg.stable_val (Rg.stable_val (Rg.stable_val (Rg.stable_val (Rg.stable_val (Rg.stable_val (Rg.stable_val (Rg.stable_val (Rg.stable_val (Rg.stable_val (Rg.stable_val (Rg.stable_val (Rg.stable_val (Rg.stable_nil))))))))))))))))))))))))))))))
      case hchain =>
        intro vs
        -- 0: slot 11 := Op.move t3
        refine Rg.Chain.pure rfl (fun w => by go_simp; (try go_ints); with_reducible rfl) ?_
        simp only [Act.put, List.setIfInBounds_toArray, List.set_cons_succ, List.set_cons_zero]
        -- 1: slot 12 := Op.move t0
        refine Rg.Chain.pure rfl (fun w => by go_simp; (try go_ints); with_reducible rfl) ?_
        simp only [Act.put, List.setIfInBounds_toArray, List.set_cons_succ, List.set_cons_zero]
        -- 2: slot 13 := Op.move t4
        refine Rg.Chain.pure rfl (fun w => by go_simp; (try go_ints); with_reducible rfl) ?_
        simp only [Act.put, List.setIfInBounds_toArray, List.set_cons_succ, List.set_cons_zero]
        -- 3: slot 14 := Op.indexAddr 30 t12 t13
        refine Rg.Chain.pure rfl (fun w => by go_simp; (try go_ints); with_reducible rfl) ?_
        simp only [Act.put, List.setIfInBounds_toArray, List.set_cons_succ, List.set_cons_zero]
        -- 4: slot 15 := Op.fieldAddr 29 t14 0
        refine Rg.Chain.pure rfl (fun w => by go_simp; (try go_ints); with_reducible rfl) ?_
        simp only [Act.put, List.setIfInBounds_toArray, List.set_cons_succ, List.set_cons_zero]
        -- 5: slot 16 := Op.load 9 t15
        refine Rg.Chain.read rfl (fun wx hs => by obtain ⟨q0, q1⟩ := hS wx hs; go_simp; with_reducible rfl) ?_
        simp only [Act.put, List.setIfInBounds_toArray, List.set_cons_succ, List.set_cons_zero]
        -- 6: slot 17 := Op.call ( builtin len, args := #[t16], argTypes := #[9] )
        refine Rg.Chain.pure rfl (fun w => by go_simp; (try go_ints); with_reducible rfl) ?_
        simp only [Act.put, List.setIfInBounds_toArray, List.set_cons_succ, List.set_cons_zero]
        -- 7: slot 18 := Op.call ( value (Operand.func 22), args := #[t17], argTypes := #[3] )
        refine Rg.Chain.call ?_ ?_ rfl (fun w => ?_) (fun wx hs => ?_) ?_
        rotate_left 2
        · go_simp; (try go_ints); constructor <;> with_reducible rfl
        · exact rlen_any _ _ (by omega) (by omega)
        simp only [Act.put, List.setIfInBounds_toArray, List.set_cons_succ, List.set_cons_zero]
        -- 8: slot 19 := Op.binOp BinOp.add 9 t11 t18 9
        refine Rg.Chain.pure rfl (fun w => by go_simp; (first | with_reducible rfl | rw [if_neg (by omega)])) ?_
        simp only [Act.put, List.setIfInBounds_toArray, List.set_cons_succ, List.set_cons_zero]
        -- 9: slot 20 := Op.move t0
        refine Rg.Chain.pure rfl (fun w => by go_simp; (try go_ints); with_reducible rfl) ?_
        simp only [Act.put, List.setIfInBounds_toArray, List.set_cons_succ, List.set_cons_zero]
        -- 10: slot 21 := Op.move t4
        refine Rg.Chain.pure rfl (fun w => by go_simp; (try go_ints); with_reducible rfl) ?_
        simp only [Act.put, List.setIfInBounds_toArray, List.set_cons_succ, List.set_cons_zero]
        -- 11: slot 22 := Op.indexAddr 30 t20 t21
        refine Rg.Chain.pure rfl (fun w => by go_simp; (try go_ints); with_reducible rfl) ?_
        simp only [Act.put, List.setIfInBounds_toArray, List.set_cons_succ, List.set_cons_zero]
        -- 12: slot 23 := Op.fieldAddr 29 t22 1
        refine Rg.Chain.pure rfl (fun w => by go_simp; (try go_ints); with_reducible rfl) ?_
        simp only [Act.put, List.setIfInBounds_toArray, List.set_cons_succ, List.set_cons_zero]
        -- 13: slot 24 := Op.load 9 t23
        refine Rg.Chain.read rfl (fun wx hs => by obtain ⟨q0, q1⟩ := hS wx hs; go_simp; with_reducible rfl) ?_
        simp only [Act.put, List.setIfInBounds_toArray, List.set_cons_succ, List.set_cons_zero]
        -- 14: slot 25 := Op.call ( builtin len, args := #[t24], argTypes := #[9] )
        refine Rg.Chain.pure rfl (fun w => by go_simp; (try go_ints); with_reducible rfl) ?_
        simp only [Act.put, List.setIfInBounds_toArray, List.set_cons_succ, List.set_cons_zero]
        -- 15: slot 26 := Op.call ( value (Operand.func 22), args := #[t25], argTypes := #[3] )
        refine Rg.Chain.call ?_ ?_ rfl (fun w => ?_) (fun wx hs => ?_) ?_
        rotate_left 2
        · go_simp; (try go_ints); constructor <;> with_reducible rfl
        · exact rlen_any _ _ (by omega) (by omega)
        simp only [Act.put, List.setIfInBounds_toArray, List.set_cons_succ, List.set_cons_zero]
        -- 16: slot 27 := Op.binOp BinOp.add 9 t19 t26 9
        refine Rg.Chain.pure rfl (fun w => by go_simp; (first | with_reducible rfl | rw [if_neg (by omega)])) ?_
        simp only [Act.put, List.setIfInBounds_toArray, List.set_cons_succ, List.set_cons_zero]
        -- 17: slot 28 := Op.move t0
        refine Rg.Chain.pure rfl (fun w => by go_simp; (try go_ints); with_reducible rfl) ?_
        simp only [Act.put, List.setIfInBounds_toArray, List.set_cons_succ, List.set_cons_zero]
        -- 18: slot 29 := Op.move t4
        refine Rg.Chain.pure rfl (fun w => by go_simp; (try go_ints); with_reducible rfl) ?_
        simp only [Act.put, List.setIfInBounds_toArray, List.set_cons_succ, List.set_cons_zero]
        -- 19: slot 30 := Op.indexAddr 30 t28 t29
        refine Rg.Chain.pure rfl (fun w => by go_simp; (try go_ints); with_reducible rfl) ?_
        simp only [Act.put, List.setIfInBounds_toArray, List.set_cons_succ, List.set_cons_zero]
        -- 20: slot 31 := Op.fieldAddr 29 t30 0
        refine Rg.Chain.pure rfl (fun w => by go_simp; (try go_ints); with_reducible rfl) ?_
        simp only [Act.put, List.setIfInBounds_toArray, List.set_cons_succ, List.set_cons_zero]
        -- 21: slot 32 := Op.load 9 t31
        refine Rg.Chain.read rfl (fun wx hs => by obtain ⟨q0, q1⟩ := hS wx hs; go_simp; with_reducible rfl) ?_
        simp only [Act.put, List.setIfInBounds_toArray, List.set_cons_succ, List.set_cons_zero]
        -- 22: slot 33 := Op.binOp BinOp.add 9 t27 t32 9
        refine Rg.Chain.pure rfl (fun w => by go_simp; (first | with_reducible rfl | rw [if_neg (by omega)])) ?_
        simp only [Act.put, List.setIfInBounds_toArray, List.set_cons_succ, List.set_cons_zero]
        -- 23: slot 34 := Op.move t0
        refine Rg.Chain.pure rfl (fun w => by go_simp; (try go_ints); with_reducible rfl) ?_
        simp only [Act.put, List.setIfInBounds_toArray, List.set_cons_succ, List.set_cons_zero]
        -- 24: slot 35 := Op.move t4
        refine Rg.Chain.pure rfl (fun w => by go_simp; (try go_ints); with_reducible rfl) ?_
        simp only [Act.put, List.setIfInBounds_toArray, List.set_cons_succ, List.set_cons_zero]
        -- 25: slot 36 := Op.indexAddr 30 t34 t35
        refine Rg.Chain.pure rfl (fun w => by go_simp; (try go_ints); with_reducible rfl) ?_
        simp only [Act.put, List.setIfInBounds_toArray, List.set_cons_succ, List.set_cons_zero]
        -- 26: slot 37 := Op.fieldAddr 29 t36 1
        refine Rg.Chain.pure rfl (fun w => by go_simp; (try go_ints); with_reducible rfl) ?_
        simp only [Act.put, List.setIfInBounds_toArray, List.set_cons_succ, List.set_cons_zero]
        -- 27: slot 38 := Op.load 9 t37
        refine Rg.Chain.read rfl (fun wx hs => by obtain ⟨q0, q1⟩ := hS wx hs; go_simp; with_reducible rfl) ?_
        simp only [Act.put, List.setIfInBounds_toArray, List.set_cons_succ, List.set_cons_zero]
        -- 28: slot 39 := Op.binOp BinOp.add 9 t33 t38 9
        refine Rg.Chain.pure rfl (fun w => by go_simp; (first | with_reducible rfl | rw [if_neg (by omega)])) ?_
        simp only [Act.put, List.setIfInBounds_toArray, List.set_cons_succ, List.set_cons_zero]
        -- 29: slot 3 := Op.assign t39
        refine Rg.Chain.pure rfl (fun w => by go_simp; (try go_ints); with_reducible rfl) ?_
        simp only [Act.put, List.setIfInBounds_toArray, List.set_cons_succ, List.set_cons_zero]
        exact Rg.Chain.nil
      case hend =>
        intro vs F w2 hE
        have hb2 := Rg.step_below hE.step
        clear hE hS
        simp only [Rg.finalAct, Rg.slot_val, Act.put, List.setIfInBounds_toArray, List.set_cons_succ, List.set_cons_zero]
        have W2 := below_later hW hb2
        go_wp2_with fail
        go_roundw
        case rel => exact ⟨k + 1, by omega, by go_num, by rw [HT.out], W2⟩
        case measure => simp [intOf]; omega
    · obtain rfl : k = l.length := by omega
      go_wp2_with fail
      go_ret
      rw [List.take_length]
      exact ⟨rfl, hW⟩

theorem rpairs_nil (a : Option Addr) (cap : Nat) (w : World) :
    Calls Tryd.prog 15 #[.slice a 0 cap] w fun e w' => e = .returned (.string (bs [])) ∧ Below w.heap.size w w' := by
  go_enter Tryd.func15, Tryd.ntmps15
  go_wp2_with fail
  refine wp_loop_rounds 1 ?_
  rw [rounds_succ]
  go_wp2_with fail
  go_ret
  exact ⟨rfl, Below.refl _ _⟩
/-- The reference's Pairs at a slice of pairs. -/
theorem rpairs_any (l : List (Bs × Bs)) (v : Value) (w : World) (hR : Reads w v 2 l.length (l.flatMap pairCells)) (hn : l.length ≤ 1000) (hF : ∀ p ∈ l, p.1.length ≤ 100000 ∧ p.2.length ≤ 100000) :
    Calls Tryd.prog 15 #[v] w fun e w' => e = .returned (.string (bs (pairB l))) ∧ Below w.heap.size w w' := by
  obtain ⟨a, cap, rfl, h⟩ := hR.opened (fun _ _ => rfl) (by decide)
  by_cases h0 : 0 < l.length
  · obtain ⟨b, off, rfl, hlt, hc⟩ := h h0
    exact rpairs_some b off cap l w hn (fun _ => hlt) hF (fun k h => ⟨hc k h 0 _ rfl, hc k h 1 _ rfl⟩)
  · have : l = [] := List.eq_nil_of_length_eq_zero (by omega)
    subst this
    exact rpairs_nil a cap w
end Go.Proofs.YtniflggmfegnfaaDoor
