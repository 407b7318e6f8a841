/- conduitlaw3.PairLong answers true at all numbers, where the package errors' variable holds what it was given. Condition: that. -/
import Derived.Test.YtfhddeghmlnobaaDoorKnown3
namespace Go.Proofs.YtfhddeghmlnobaaDoor
open Go.RowKit

theorem make_bytes_u8 (w : World) (n : Int) (h0 : 0 ≤ n) (h1 : n < 256) :
    (Instr.makeSlice 36 (.int .u8 n) (.int .u8 n)).run Tryd.prog w = .ok (.slice (some ⟨w.heap.size, 0, none⟩) n.toNat n.toNat) (w.alloc (.cells (madeCells #[.int .u8 0] n.toNat) 5)) := by
  obtain ⟨i, hi, hz, hs, hb⟩ := inf_u8
  have := run_make (P := Tryd.prog) w 36 5 i _ Tryd.underlying36 hi hz .u8 .u8 n n h0 (Int.le_refl _) (by rw [hb]; omega) (by omega)
  rw [this, hs]
  simp [Value.cells]

theorem readP_one {s : Bs} {p : Bs × Bs} (h : oneP s = some (p, [])) : readP 0 s = ([p], 0) := by
  have hne : s ≠ [] := by rintro rfl; have := oneP_lt h; simp at this
  have z : readP 1 [] = ([], 0) := by rw [readP.eq_def]; simp
  rw [readP.eq_def, if_neg hne, dif_neg (by omega), h]
  simp [z]
theorem readP_lacks {s : Bs} {p : Bs × Bs} (h : oneP s = some (p, [])) (c : Nat) (h0 : 0 < c) (hc : c < s.length) : readP 0 (s.take c) = ([], 11) := by
  have hne : s.take c ≠ [] := List.ne_nil_of_length_pos (by rw [List.length_take]; omega)
  rw [readP.eq_def, if_neg hne, dif_neg (by omega), oneP_cut h c hc]

theorem long_one (N M : Nat) (hN : N < 100) (hM : M < 100) : oneP ([128, 0, 0, u8 N, 128, 0, 0, u8 M] ++ List.replicate N 0 ++ List.replicate M 0) = some ((List.replicate N 0, List.replicate M 0), []) := by
  have e0 : ((128 : UInt8).toNat : Int) = 128 := by decide
  have eN : ((u8 (N : Int)).toNat : Int) = N := by rw [u8_cast]; omega
  have eM : ((u8 (M : Int)).toNat : Int) = M := by rw [u8_cast]; omega
  refine oneP_of (s1 := [128, 0, 0, u8 M] ++ List.replicate N 0 ++ List.replicate M 0) ⟨by simp, .inr (by simp)⟩ ?_ ?_ ⟨by simp, .inr (by simp)⟩ ?_ ?_
  · have a0 : at0 ([128, 0, 0, u8 N, 128, 0, 0, u8 M] ++ List.replicate N 0 ++ List.replicate M 0) 0 = 128 := e0
    have a1 : at0 ([128, 0, 0, u8 N, 128, 0, 0, u8 M] ++ List.replicate N 0 ++ List.replicate M 0) 1 = 0 := rfl
    have a2 : at0 ([128, 0, 0, u8 N, 128, 0, 0, u8 M] ++ List.replicate N 0 ++ List.replicate M 0) 2 = 0 := rfl
    have a3 : at0 ([128, 0, 0, u8 N, 128, 0, 0, u8 M] ++ List.replicate N 0 ++ List.replicate M 0) 3 = N := eN
    unfold lenN longN
    rw [a0, a1, a2, a3, if_neg (by omega), List.length_replicate]
    omega
  · have a0 : at0 ([128, 0, 0, u8 N, 128, 0, 0, u8 M] ++ List.replicate N 0 ++ List.replicate M 0) 0 = 128 := e0
    unfold lenTail
    rw [a0, if_neg (by omega)]
    rfl
  · have a0 : at0 ([128, 0, 0, u8 M] ++ List.replicate N 0 ++ List.replicate M 0) 0 = 128 := e0
    have a1 : at0 ([128, 0, 0, u8 M] ++ List.replicate N 0 ++ List.replicate M 0) 1 = 0 := rfl
    have a2 : at0 ([128, 0, 0, u8 M] ++ List.replicate N 0 ++ List.replicate M 0) 2 = 0 := rfl
    have a3 : at0 ([128, 0, 0, u8 M] ++ List.replicate N 0 ++ List.replicate M 0) 3 = M := eM
    unfold lenN longN
    rw [a0, a1, a2, a3, if_neg (by omega), List.length_replicate]
    omega
  · have a0 : at0 ([128, 0, 0, u8 M] ++ List.replicate N 0 ++ List.replicate M 0) 0 = 128 := e0
    unfold lenTail
    rw [a0, if_neg (by omega), List.append_nil]
    rfl

set_option maxRecDepth 100000 in
set_option maxHeartbeats 4000000 in
theorem pl_any (n m : Int) (w : World) (hn0 : 0 ≤ n) (hn1 : n < 256) (hm0 : 0 ≤ m) (hm1 : m < 256) (hg : w.cell? ⟨0, 0, none⟩ = some errTypeV) :
    Calls Tryd.prog 5 #[.int .u8 n, .int .u8 m] w fun e w' => e = .returned (.bool true) ∧ Below w.heap.size w w' := by
  have hg' : ∀ w', Below w.heap.size w w' → w'.cell? ⟨0, 0, none⟩ = some errTypeV := fun w' hb => by rw [hb.cell (World.block_lt_of_cell? w _ hg)]; exact hg
  have HG := Lib.hid hg'
  clear hg hg'
  go_enter Tryd.func5, Tryd.ntmps5
  go_wp2_with fail
  refine (known3 _ (HG.out _ (Below.refl _ _))).mono ?_
  rintro e w1 ⟨rfl, W1⟩
  go_wp2_with fail
  refine Rg.region1 74 [.val ?_, .val ?_, .any (Rg.Row 5 1 (n % 100).toNat ((List.replicate (n % 100).toNat 0).map bv)), .val ?_, .val ?_, .val ?_, .any (Rg.Row 5 1 (m % 100).toNat ((List.replicate (m % 100).toNat 0).map bv)), .val ?_, .val ?_, .val ?_] [] (fun _ _ => False) (by kernel_rfl) (by decide +kernel) (by simp) rfl (by simp) ?hstab ?hown ?hdis ?hchain ?hend
  case hstab => exact Rg.stable_val (Rg.stable_val (Rg.stable_row (Rg.stable_val (Rg.stable_val (Rg.stable_val (Rg.stable_row (Rg.stable_val (Rg.stable_val (Rg.stable_val (Rg.stable_nil))))))))))
  case hchain =>
    intro vs
    -- 0: slot 14 := Op.move t0
    refine Rg.Chain.pure rfl (fun w => by go_simp; (try go_ints); with_reducible rfl) ?_
    simp only [Act.put, List.setIfInBounds_toArray, List.set_cons_succ, List.set_cons_zero]
    -- 1: slot 15 := Op.binOp BinOp.rem 5 t14 (const (100:u8)) 5
    refine Rg.Chain.pure rfl (fun w => by go_simp; (try go_ints); with_reducible rfl) ?_
    simp only [Act.put, List.setIfInBounds_toArray, List.set_cons_succ, List.set_cons_zero]
    -- 2: slot 16 := Op.makeSlice 36 t15 t15
    refine Rg.Chain.new ?_ ?_ rfl (fun w => ?_) (fun w => ?_) ?_
    rotate_left 2
    · have hmk := make_bytes_u8 w (n%100) (by omega) (by omega)
      go_simp; (try go_ints); (first | with_reducible rfl | (constructor <;> with_reducible rfl))
    · exact made_bytes w (n%100).toNat (by unfold maxLen; omega)
    simp only [Act.put, List.setIfInBounds_toArray, List.set_cons_succ, List.set_cons_zero]
    -- 3: slot 17 := Op.convert 36 9 t16
    refine Rg.Chain.reads 2 rfl rfl (by decide) (Rg.only 3 2 (by decide)) (fun w F _ hp => by have hcv := row_text hp; go_simp; with_reducible rfl) ?_
    simp only [Act.put, List.setIfInBounds_toArray, List.set_cons_succ, List.set_cons_zero]
    -- 4: slot 18 := Op.move t1
    refine Rg.Chain.pure rfl (fun w => by go_simp; (try go_ints); with_reducible rfl) ?_
    simp only [Act.put, List.setIfInBounds_toArray, List.set_cons_succ, List.set_cons_zero]
    -- 5: slot 19 := Op.binOp BinOp.rem 5 t18 (const (100:u8)) 5
    refine Rg.Chain.pure rfl (fun w => by go_simp; (try go_ints); with_reducible rfl) ?_
    simp only [Act.put, List.setIfInBounds_toArray, List.set_cons_succ, List.set_cons_zero]
    -- 6: slot 20 := Op.makeSlice 36 t19 t19
    refine Rg.Chain.new ?_ ?_ rfl (fun w => ?_) (fun w => ?_) ?_
    rotate_left 2
    · have hmk := make_bytes_u8 w (m%100) (by omega) (by omega)
      go_simp; (try go_ints); (first | with_reducible rfl | (constructor <;> with_reducible rfl))
    · exact made_bytes w (m%100).toNat (by unfold maxLen; omega)
    simp only [Act.put, List.setIfInBounds_toArray, List.set_cons_succ, List.set_cons_zero]
    -- 7: slot 21 := Op.convert 36 9 t20
    refine Rg.Chain.reads 6 rfl rfl (by decide) (Rg.only 7 6 (by decide)) (fun w F _ hp => by have hcv := row_text hp; go_simp; with_reducible rfl) ?_
    simp only [Act.put, List.setIfInBounds_toArray, List.set_cons_succ, List.set_cons_zero]
    -- 8: slot 5 := Op.assign t17
    refine Rg.Chain.pure rfl (fun w => by go_simp; (try go_ints); with_reducible rfl) ?_
    simp only [Act.put, List.setIfInBounds_toArray, List.set_cons_succ, List.set_cons_zero]
    -- 9: slot 6 := Op.assign t21
    refine Rg.Chain.pure rfl (fun w => by go_simp; (try go_ints); with_reducible rfl) ?_
    simp only [Act.put, List.setIfInBounds_toArray, List.set_cons_succ, List.set_cons_zero]
    exact Rg.Chain.nil
  case hown => rintro j k h; cases h
  case hdis => rintro i j k h; cases h
  case hend =>
    intro vs F w2 hE
    have hb2 := Rg.step_from hE.step (B := w1.heap.size) (Nat.le_refl _) (by rintro j k h; cases h)
    clear hE
    simp only [Rg.finalAct, Rg.slot_val, Rg.slot_any, Act.put, List.setIfInBounds_toArray, List.set_cons_succ, List.set_cons_zero]
    have W2 := below_later W1 hb2
    clear hb2 W1
    obtain ⟨N, hN, hN1⟩ : ∃ N : Nat, n % 100 = (N : Int) ∧ N < 100 := ⟨(n % 100).toNat, by omega, by omega⟩
    obtain ⟨M, hM, hM1⟩ : ∃ M : Nat, m % 100 = (M : Int) ∧ M < 100 := ⟨(m % 100).toNat, by omega, by omega⟩
    have hone := long_one N M hN1 hM1
    have hcv := fun w' => row_text (Rg.row_bytes w' 5 [128, 0, 0, u8 (N : Int), 128, 0, 0, u8 (M : Int)] #[.int .u8 128, .int .u8 0, .int .u8 0, .int .u8 (n % 100), .int .u8 128, .int .u8 0, .int .u8 0, .int .u8 (m % 100)] (by simp [bv, u8_cast]; omega) (by simp [maxLen]))
    rw [show ([128, 0, 0, u8 (N : Int), 128, 0, 0, u8 (M : Int)] : Bs).length = 8 from rfl] at hcv
    have e1 : List.replicate (n % 100).toNat (0 : UInt8) = List.replicate N 0 := by rw [hN, Int.toNat_natCast]
    have e2 : List.replicate (m % 100).toNat (0 : UInt8) = List.replicate M 0 := by rw [hM, Int.toNat_natCast]
    rw [e1, e2]
    have z1 : (List.replicate N (0 : UInt8)).length < 100 := by rw [List.length_replicate]; exact hN1
    have z2 : (List.replicate M (0 : UInt8)).length < 100 := by rw [List.length_replicate]; exact hM1
    have z3 : ([128, 0, 0, u8 (N : Int), 128, 0, 0, u8 (M : Int)] : Bs).length = 8 := rfl
    generalize ([128, 0, 0, u8 (N : Int), 128, 0, 0, u8 (M : Int)] : Bs) = H at *
    generalize List.replicate N (0 : UInt8) = A at *
    generalize List.replicate M (0 : UInt8) = B at *
    clear hN hM hN1 hM1 e1 e2
    rw [List.append_assoc] at hone
    have hS : (H ++ (A ++ B)).length = 8 + A.length + B.length := by rw [List.length_append, List.length_append, z3]; omega
    have hA := fun u hg => pread_any (H ++ (A ++ B)) u hg
    rw [readP_one hone] at hA
    simp only [errV_zero] at hA
    have hB : ∀ c : Nat, c = (H ++ (A ++ B)).length - 1 → ∀ u : World, u.cell? ⟨0, 0, none⟩ = some errTypeV → Calls Tryd.prog 15 #[.string (bs ((H ++ (A ++ B)).take c))] u fun e w' => (∃ v, e = .returned (.tuple #[v, eV 11])) ∧ Below u.heap.size u w' := by
      intro c hc u hg
      have h := pread_any ((H ++ (A ++ B)).take c) u hg
      rw [readP_lacks hone c (by omega) (by omega)] at h
      exact h.mono fun e w' ⟨v, h1, _, h3⟩ => ⟨⟨v, h1⟩, h3⟩
    have HA := Lib.hid hA
    have HB := Lib.hid hB
    clear hA hB hone
    go_wp2_with fail
    clear hcv
    generalize H ++ (A ++ B) = S at *
    have s1 : 1 ≤ (S.length : Int) := by omega
    have s2 : (S.length : Int) ≤ 1000 := by omega
    clear hS z1 z2 z3
    refine (HA.out _ (HG.out _ (below_later W2 (below_alloc _ _)))).mono ?_
    rintro e w3 ⟨v, rfl, o3, hb⟩
    have W3 := below_later W2 (below_after hb)
    clear hb W2
    obtain ⟨g, cap, rfl, _, hz, hc⟩ := own_open o3 (by simp)
    have c0 : w3.cell? ⟨g, 0, none⟩ = some (.string (bs A)) := hc 0 _ rfl
    have c1 : w3.cell? ⟨g, 1, none⟩ = some (.string (bs B)) := hc 1 _ rfl
    simp only [List.length_cons, List.length_nil]
    clear hc o3
    go_wp2_with fail
    trace_state
    refine (HB.out _ (by omega) _ (HG.out _ W3)).mono ?_
    rintro e w4 ⟨⟨v4, rfl⟩, hb⟩
    have W4 := below_later W3 hb
    rw [← hb.cell hz] at c0 c1
    replace hz := Nat.lt_of_lt_of_le hz hb.size
    clear hb W3
    go_wp2_with fail
    refine (is_num 11 11 _).mono ?_
    rintro e w5 ⟨rfl, rfl⟩
    go_wp2_with fail
    go_ret
    exact ⟨rfl, W4⟩
theorem pl_said (n m : Int) (w : World) (hn : 0 ≤ n ∧ n < 256) (hm : 0 ≤ m ∧ m < 256) (hg : w.cell? ⟨0, 0, none⟩ = some errTypeV) :
    Calls Tryd.prog 5 #[.int .u8 n, .int .u8 m] w fun e w' => e = .returned (.bool true) ∧ Below w.heap.size w w' := pl_any n m w hn.1 hn.2 hm.1 hm.2 hg
end Go.Proofs.YtfhddeghmlnobaaDoor
