/- conduitlaw5.known answers true, where the package errors' variable holds what it was given. Condition: that. -/
import Derived.Test.YtbhdoechhfgpeaaRRRDoorCutRef
import Derived.Test.YtbhdoechhfgpeaaRRRDoorRgOwn
import Derived.Test.YtbhdoechhfgpeaaRRRDoorBytes
namespace Go.Proofs.YtbhdoechhfgpeaaRRRDoor
open Go.RowKit

theorem k5_a : cutFeed 100 false [] [1, 2, 0, 1, 0] = ([], 0, [1, 2, 0, 1, 0], false) := by
  have h : cutNext 100 [1, 2, 0, 1, 0] = (Rec.zero, [1, 2, 0, 1, 0], 11) := by kernel_rfl
  exact cutRun_lacks (by rw [List.nil_append, h])
theorem k5_b : cutFeed 100 false [1, 2, 0, 1, 0] [0, 0, 0, 1] = ([⟨2, 1, [], 0⟩], 0, [1], false) := by
  have h : cutNext 100 [1, 2, 0, 1, 0, 0, 0, 0, 1] = (⟨2, 1, [], 0⟩, [1], 0) := by kernel_rfl
  have h2 : cutNext 100 [1] = (Rec.zero, [1], 11) := by kernel_rfl
  show cutRun 100 [1, 2, 0, 1, 0, 0, 0, 0, 1] = _
  rw [cutRun_ok (by rw [h]), h]
  simp only
  rw [cutRun_lacks (by rw [h2])]
  rfl
theorem k5_c : cutFeed 100 false [1] [0, 0, 0, 255, 255] = ([], 12, [], true) := by
  have h : cutNext 100 [1, 0, 0, 0, 255, 255] = (Rec.zero, [1, 0, 0, 0, 255, 255], 12) := by kernel_rfl
  show cutRun 100 [1, 0, 0, 0, 255, 255] = _
  rw [cutRun_bad (by rw [h]; decide) (by rw [h]; decide), h]
theorem k5_d : cutFeed 100 true [] [] = ([], 18, [], true) := rfl

set_option maxRecDepth 100000 in
set_option maxHeartbeats 4000000 in
theorem known5 (w : World) (hg : w.cell? ⟨0, 0, none⟩ = some errTypeV) : Calls Tryd.prog 7 #[] w fun e w' => e = .returned (.bool true) ∧ Below w.heap.size w w' := by
  have hgl := World.block_lt_of_cell? w _ hg
  simp only at hgl
  have hne : 0 ≠ w.heap.size := by omega
  have hg' : ∀ w', Below w.heap.size w w' → w'.cell? ⟨0, 0, none⟩ = some errTypeV := fun w' hb => by rw [hb.cell (World.block_lt_of_cell? w _ hg)]; exact hg
  have HG := Lib.hid hg'
  clear hg hg'
  have hBy := fun w => rbytes_any ⟨2, 1, [], 0⟩ w (by decide)
  rw [show (⟨2, 1, [], 0⟩ : Rec).bytes = [1, 2, 0, 1, 0, 0, 0, 0] by kernel_rfl] at hBy
  have HBy := Lib.hid hBy
  have hA := fun b w hb hg hne => cfeed_any b [] [1, 2, 0, 1, 0] 100 false w hb hg hne (by decide)
  rw [k5_a] at hA
  simp only [errV_zero] at hA
  have hB := fun b w hb hg hne => cfeed_any b [1, 2, 0, 1, 0] [0, 0, 0, 1] 100 false w hb hg hne (by decide)
  rw [k5_b] at hB
  simp only [errV_zero] at hB
  have hC := fun b w hb hg hne => cfeed_any b [1] [0, 0, 0, 255, 255] 100 false w hb hg hne (by decide)
  rw [k5_c] at hC
  simp only at hC
  rw [errV_num (by decide)] at hC
  have hD := fun b w hb hg hne => cfeed_any b [] [] 100 true w hb hg hne (by decide)
  rw [k5_d] at hD
  simp only at hD
  rw [errV_num (by decide)] at hD
  have HA := Lib.hid hA
  have HB := Lib.hid hB
  have HC := Lib.hid hC
  have HD := Lib.hid hD
  clear hBy hA hB hC hD
  go_enter Tryd.func7, Tryd.ntmps7
  go_wp2_with fail
  refine (cnew_any 100 _).mono ?_
  rintro e w1 ⟨rfl, hw1⟩
  have b1 : w1.heap[w.heap.size]? = some (cutObj [] 100 false) := by rw [hw1]; exact heap_alloc_new w _
  have W1 : Below w.heap.size w w1 := by rw [hw1]; exact below_alloc _ _
  clear hw1
  generalize hB0 : w.heap.size = B at *
  go_wp2_with fail
  refine (HBy.out _).mono ?_
  rintro e w2 ⟨rfl, hb⟩
  replace b1 := kept b1 hb
  have W2 : Below B w w2 := W1.trans (hb.mono (by rw [← hB0]; have := W1.size; omega))
  clear hb W1
  go_wp2_with fail
  refine (HA.out _ _ b1 (HG.out _ W2) hne).mono ?_
  rintro e w3 ⟨v3, rfl, o3, b3, hon⟩
  have W3 : Below B w w3 := W2.trans (only_base hon (Nat.le_refl _) (by rw [← hB0]; exact hB0 ▸ W2.size))
  obtain ⟨a3, cap3, rfl⟩ := own_slice o3
  simp only [List.length_nil]
  clear hon W2 b1 o3
  go_wp2_with fail
  refine (cwaits_any _ _ _ _ _ b3).mono ?_
  rintro e w4 ⟨rfl, rfl⟩
  have hbx := b3
  have hz3 := box_lt b3
  go_wp2_with fail
  refine Rg.region1 85 [.val ?_, .val ?_, .val ?_, .val ?_, .val ?_, .val ?_, .any (Rg.BoxV B (cutObj [1] 100 false) (fun v => ∃ a cap, v = .tuple #[.slice a 1 cap, .nilIface])), .any (Rg.BoxV B (cutObj [1] 100 false) (fun v => ∃ a cap, v = .tuple #[.slice a 1 cap, .nilIface])), .any (Rg.ValP (fun v => ∃ a cap, v = .slice a 1 cap)), .val .nilIface, .any (Rg.ValP (fun v => ∃ a cap, v = .slice a 1 cap)), .val ?_] [[], [], [], [], [], [], [], [6]] (fun j k => j = 6 ∧ k = B) (by kernel_rfl) (by decide +kernel) (by simp) rfl (by simp) ?hstab ?hown ?hdis ?hchain ?hend
  case hstab => exact Rg.stable_val (Rg.stable_val (Rg.stable_val (Rg.stable_val (Rg.stable_val (Rg.stable_val (Rg.stable_boxv (Rg.stable_boxv (Rg.stable_valp (Rg.stable_val (Rg.stable_valp (Rg.stable_val (Rg.stable_nil))))))))))))
  case hchain =>
    intro vs
    -- 0: slot 27 := Op.move t1
    refine Rg.Chain.pure rfl (fun w => by go_simp; (try go_ints); with_reducible rfl) ?_
    simp only [Act.put, List.setIfInBounds_toArray, List.set_cons_succ, List.set_cons_zero]
    -- 1: slot 28 := Op.move t2
    refine Rg.Chain.pure rfl (fun w => by go_simp; (try go_ints); with_reducible rfl) ?_
    simp only [Act.put, List.setIfInBounds_toArray, List.set_cons_succ, List.set_cons_zero]
    -- 2: slot 29 := Op.slice 9 t28 (some (const (5:i64))) none none
    refine Rg.Chain.pure rfl (fun w => by go_simp; (try go_ints); with_reducible rfl) ?_
    simp only [Act.put, List.setIfInBounds_toArray, List.set_cons_succ, List.set_cons_zero]
    -- 3: slot 30 := Op.move t2
    refine Rg.Chain.pure rfl (fun w => by go_simp; (try go_ints); with_reducible rfl) ?_
    simp only [Act.put, List.setIfInBounds_toArray, List.set_cons_succ, List.set_cons_zero]
    -- 4: slot 31 := Op.slice 9 t30 none (some (const (1:i64))) none
    refine Rg.Chain.pure rfl (fun w => by go_simp; (try go_ints); with_reducible rfl) ?_
    simp only [Act.put, List.setIfInBounds_toArray, List.set_cons_succ, List.set_cons_zero]
    -- 5: slot 32 := Op.binOp BinOp.add 9 t29 t31 9
    refine Rg.Chain.pure rfl (fun w => by go_simp; (first | with_reducible rfl | rw [if_neg (by omega)])) ?_
    simp only [Act.put, List.setIfInBounds_toArray, List.set_cons_succ, List.set_cons_zero]
    -- 6: slot 33 := Op.call ( value (Operand.func 11), args := #[t27, t32], argTypes := #[29, 9] )
    refine Rg.Chain.callOwn ?_ ?_ hbx ⟨rfl, rfl⟩ rfl (fun w => ?_) (fun wx hs hx => ?_) ?_
    rotate_left 2
    · go_simp; (try go_ints); constructor <;> with_reducible rfl
    · exact (HB.out B wx hx (by rw [only_cell (b := B) ⟨hs.os, hs.tape, hs.output, hs.size, fun k hk hn => hs.block k hk (by rintro ⟨j, _, rfl⟩; exact hn rfl)⟩ (by show 0 < _; omega) hne]; exact HG.out _ W3) hne).mono fun e w' ⟨v, h1, h2, h3, h4⟩ => ⟨_, h1, by obtain ⟨a, cap, rfl⟩ := own_slice h2; exact ⟨a, cap, rfl⟩, h3, h4⟩
    simp only [Act.put, List.setIfInBounds_toArray, List.set_cons_succ, List.set_cons_zero]
    -- 7: slot 26 := Op.move t33
    refine Rg.Chain.take 6 rfl rfl (by decide) (Rg.only 7 6 (by decide)) (by decide) (fun w => by go_simp) ?_
    simp only [Act.put, List.setIfInBounds_toArray, List.set_cons_succ, List.set_cons_zero]
    -- 8: slot 34 := Op.extract t26 0
    refine Rg.Chain.readAny 7 rfl rfl (by decide) (Rg.only 8 7 (by decide)) (fun w F hp => by obtain ⟨⟨a, cap, hv⟩, _⟩ := hp; rw [hv]; exact ⟨_, by go_simp, ⟨a, cap, rfl⟩⟩) ?_
    simp only [Act.put, List.setIfInBounds_toArray, List.set_cons_succ, List.set_cons_zero]
    -- 9: slot 35 := Op.extract t26 1
    refine Rg.Chain.reads 7 rfl rfl (by decide) (Rg.only 9 7 (by decide)) (fun w F _ hp => by obtain ⟨⟨a, cap, hv⟩, _⟩ := hp; rw [hv]; go_simp) ?_
    simp only [Act.put, List.setIfInBounds_toArray, List.set_cons_succ, List.set_cons_zero]
    -- 10: slot 6 := Op.assign t34
    refine Rg.Chain.readAny 8 rfl rfl (by decide) (Rg.only 10 8 (by decide)) (fun w F hp => ⟨vs 8, by go_simp, hp.1⟩) ?_
    simp only [Act.put, List.setIfInBounds_toArray, List.set_cons_succ, List.set_cons_zero]
    -- 11: slot 7 := Op.assign t35
    refine Rg.Chain.pure rfl (fun w => by go_simp; (try go_ints); with_reducible rfl) ?_
    simp only [Act.put, List.setIfInBounds_toArray, List.set_cons_succ, List.set_cons_zero]
    exact Rg.Chain.nil
  case hown => rintro j k ⟨_, rfl⟩; exact hz3
  case hdis => rintro i j k ⟨rfl, _⟩ ⟨rfl, _⟩; rfl
  case hend =>
    intro vs F w5 hE
    have f7 := hE.fact 7 _ (Rg.kept 7 (by decide)) rfl
    have f10 := hE.fact 10 _ (Rg.kept 10 (by decide)) rfl
    have b5 := f7.2.1
    obtain ⟨a10, cap10, h10⟩ := f10.1
    have hb5 := Rg.step_from hE.step (B := B) (by rw [← hB0]; exact hB0 ▸ W3.size) (by rintro j k ⟨_, rfl⟩; exact Nat.le_refl _)
    have W5 : Below B w w5 := W3.trans hb5
    clear hE f7 f10 hb5 W3 b3 hbx hz3
    simp only [Rg.finalAct, Rg.slot_val, Rg.slot_any, Act.put, List.setIfInBounds_toArray, List.set_cons_succ, List.set_cons_zero]
    rw [h10]
    go_wp2_with fail
    refine (HC.out _ _ b5 (HG.out _ W5) hne).mono ?_
    rintro e w6 ⟨v6, rfl, o6, b6, hon⟩
    have W6 : Below B w w6 := W5.trans (only_base hon (Nat.le_refl _) (by rw [← hB0]; exact hB0 ▸ W5.size))
    clear hon W5 b5 o6
    go_wp2_with fail
    refine (HD.out _ _ b6 (HG.out _ W6) hne).mono ?_
    rintro e w7 ⟨v7, rfl, o7, b7, hon⟩
    have W7 : Below B w w7 := W6.trans (only_base hon (Nat.le_refl _) (by rw [← hB0]; exact hB0 ▸ W6.size))
    clear hon W6 b6 o7
    go_wp2_with fail
    refine (is_num 12 12 _).mono ?_
    rintro e w8 ⟨rfl, rfl⟩
    go_wp2_with fail
    refine (is_num 18 18 _).mono ?_
    rintro e w9 ⟨rfl, rfl⟩
    go_wp2_with fail
    refine (cdead_any _ _ _ _ _ b7).mono ?_
    rintro e w10 ⟨rfl, rfl⟩
    go_wp2_with fail
    refine (cwaits_any _ _ _ _ _ b7).mono ?_
    rintro e w11 ⟨rfl, rfl⟩
    go_wp2_with fail
    go_ret
    exact ⟨rfl, by rw [hB0]; exact W7⟩
end Go.Proofs.YtbhdoechhfgpeaaRRRDoor
