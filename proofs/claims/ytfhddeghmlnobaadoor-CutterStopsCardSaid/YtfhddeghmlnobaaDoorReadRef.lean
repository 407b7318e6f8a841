/- What the reference's Read computes: the same record, rest and code as record.Read. No condition. -/
import Derived.Test.YtfhddeghmlnobaaDoorRead
import Derived.Test.YtfhddeghmlnobaaDoorStore
import Derived.Test.YtfhddeghmlnobaaDoorKind
import Derived.BigQuiet
namespace Go.Proofs.YtfhddeghmlnobaaDoor
open Go.RowKit

set_option maxRecDepth 100000 in
set_option maxHeartbeats 1000000 in
theorem rread_ver (s : Bs) (w : World) (h1 : ¬ s = []) (h2 : ¬ at0 s 0 = 1) :
    Calls Tryd.prog 31 #[.string (bs s)] w fun e w' => e = .returned (.tuple #[Rec.zero.v, .string (bs s), .int .i64 13]) ∧ Below w.heap.size w w' := by
  have hl : 0 < s.length := List.length_pos_iff.2 h1
  have q1 : decide ((0 : Int) < (s.length : Int)) = true := by simp; omega
  have hc : (at0 s 0 != 1) = true := by simpa using h2
  clear h2
  go_enter Tryd.func31, Tryd.ntmps31
  go_wp2_with fail
  exact bodyPost_ret (v := .tuple #[Rec.zero.v, .string (bs s), .int .i64 13]) (by simp [results, Tryd.results31, go_sem, Rec.zero]) rfl ⟨rfl, below_alloc _ _⟩

set_option maxRecDepth 100000 in
set_option maxHeartbeats 1000000 in
theorem rread_short (s : Bs) (w : World) (h1 : s = [] ∨ at0 s 0 = 1) (h2 : s.length < 8) :
    Calls Tryd.prog 31 #[.string (bs s)] w fun e w' => e = .returned (.tuple #[Rec.zero.v, .string (bs s), .int .i64 11]) ∧ Below w.heap.size w w' := by
  by_cases h0 : s = []
  · subst h0
    clear h1
    go_enter Tryd.func31, Tryd.ntmps31
    go_wp2_with fail
    exact bodyPost_ret (v := .tuple #[Rec.zero.v, .string (bs []), .int .i64 11]) (by simp [results, Tryd.results31, go_sem, Rec.zero]) rfl ⟨rfl, below_alloc _ _⟩
  · have h1 := h1.resolve_left h0
    have hl : 0 < s.length := List.length_pos_iff.2 h0
    have q1 : decide ((0 : Int) < (s.length : Int)) = true := by simp; omega
    have hc : (at0 s 0 != 1) = false := by simpa using h1
    have q2 : decide ((s.length : Int) < 8) = true := by simp; omega
    clear h1
    go_enter Tryd.func31, Tryd.ntmps31
    go_wp2_with fail
    exact bodyPost_ret (v := .tuple #[Rec.zero.v, .string (bs s), .int .i64 11]) (by simp [results, Tryd.results31, go_sem, Rec.zero]) rfl ⟨rfl, below_alloc _ _⟩

set_option maxRecDepth 100000 in
set_option maxHeartbeats 4000000 in
theorem rread_head (s : Bs) (w : World) (h1 : at0 s 0 = 1) (h2 : 8 ≤ s.length) :
    Calls Tryd.prog 31 #[.string (bs s)] w fun e w' => e = .returned (.tuple #[(recRead s).1.v, .string (bs (recRead s).2.1), .int .i64 (recRead s).2.2]) ∧ Below w.heap.size w w' := by
  have q1 : decide ((0 : Int) < (s.length : Int)) = true := by simp; omega
  have hc : (at0 s 0 != 1) = false := by simpa using h1
  have q2 : decide ((s.length : Int) < 8) = false := by simp; omega
  have a1 := at0_lo s 1
  have b1 := at0_hi s 1
  have a2 := at0_lo s 2
  have b2 := at0_hi s 2
  have a3 := at0_lo s 3
  have b3 := at0_hi s 3
  have a4 := at0_lo s 4
  have b4 := at0_hi s 4
  have a5 := at0_lo s 5
  have b5 := at0_hi s 5
  have a6 := at0_lo s 6
  have b6 := at0_hi s 6
  have HL := Lib.hid (recRead_lacks (s := s) h1 h2)
  have HF := Lib.hid (recRead_form (s := s) h1 h2)
  have HO := Lib.hid (recRead_ok (s := s) h1 h2)
  clear h1
  obtain ⟨n, hn⟩ : ∃ n, n = at0 s 4 * 256 + at0 s 5 := ⟨_, rfl⟩
  have n0 : 0 ≤ n := by omega
  have n1 : n < 65536 := by omega
  have hW : wholeN s = 8 + n + at0 s 6 := by unfold wholeN; omega
  have HW := Lib.hid hW
  have HN := Lib.hid hn
  clear hn hW
  by_cases h3 : (s.length : Int) < 8 + n + at0 s 6
  · have q3 : decide ((s.length : Int) < 8 + n + at0 s 6) = true := by simpa using h3
    rw [HL.out (by rw [HW.out]; exact h3)]
    go_enter Tryd.func31, Tryd.ntmps31
    go_wp2_with fail
    go_quiet (fail)
    rw [← HN.out]
    clear a4 b4 a5 b5
    go_wp2_with fail
    exact bodyPost_ret (v := .tuple #[Rec.zero.v, .string (bs s), .int .i64 11]) (by simp [results, Tryd.results31, go_sem, Rec.zero]) rfl ⟨rfl, below_store4 (below_drewN (below_alloc _ _) _) _ _ _ _⟩
  · have q3 : decide ((s.length : Int) < 8 + n + at0 s 6) = false := by simpa using h3
    by_cases h4 : at0 s 1 = 0
    · have q4 : (at0 s 1 == 0) = true := by simpa using h4
      rw [HF.out (by rw [HW.out]; omega) h4]
      clear h4
      go_enter Tryd.func31, Tryd.ntmps31
      go_wp2_with fail
      go_quiet (fail)
      rw [← HN.out]
      clear a4 b4 a5 b5
      go_wp2_with fail
      exact bodyPost_ret (v := .tuple #[Rec.zero.v, .string (bs s), .int .i64 10]) (by simp [results, Tryd.results31, go_sem, Rec.zero]) rfl ⟨rfl, below_store4 (below_drewN (below_alloc _ _) _) _ _ _ _⟩
    · have q4 : (at0 s 1 == 0) = false := by simpa using h4
      rw [HO.out (by rw [HW.out]; omega) h4]
      have hfr : front s = ⟨at0 s 1, at0 s 2 * 256 + at0 s 3, (s.take (8 + n).toNat).drop 8, at0 s 6⟩ := by
        unfold front
        rw [HW.out, show 8 + n + at0 s 6 - at0 s 6 = 8 + n by omega]
      rw [hfr, HW.out]
      clear hfr h4
      have l0 : 8 + n ≤ (s.length : Int) := by omega
      have l1 : 8 + n + at0 s 6 ≤ (s.length : Int) := by omega
      have l2 : 0 ≤ 8 + n := by omega
      have l3 : 0 ≤ 8 + n + at0 s 6 := by omega
      have l4 : 8 ≤ 8 + n := by omega
      go_enter Tryd.func31, Tryd.ntmps31
      go_wp2_with fail
      go_quiet (fail)
      rw [← HN.out]
      clear a4 b4 a5 b5
      go_wp2_with fail
      obtain ⟨u, hu⟩ : ∃ u, u = (w.alloc (.cells #[.int .i64 0, .int .i64 0, .string (bs []), .int .i64 0] 58)).drewN nq := ⟨_, rfl⟩
      have hnew : u.heap[w.heap.size]? = some (.cells #[.int .i64 0, .int .i64 0, .string (bs []), .int .i64 0] 58) := by rw [hu]; exact heap_alloc_new w _
      have W0 : Below w.heap.size w u := by rw [hu]; exact below_drewN (below_alloc _ _) _
      rw [← hu]
      clear hu
      have i1 : (1 : Int) < s.length := by omega
      have i2 : (2 : Int) < s.length := by omega
      have i3 : (3 : Int) < s.length := by omega
      refine Rg.region1 70 [.val ?_, .val ?_, .val ?_, .val ?_, .val ?_, .val ?_, .val ?_, .val ?_, .val ?_, .val ?_, .val ?_, .val ?_, .val ?_, .val ?_, .val ?_, .val ?_, .val ?_, .val ?_, .val ?_, .val ?_, .val ?_, .val ?_, .val ?_, .any (Rg.Box w.heap.size (.cells #[.int .i64 (at0 s 1), .int .i64 (at0 s 2 * 256 + at0 s 3), .string (bs ((s.take (8 + n).toNat).drop 8)), .int .i64 (at0 s 6)] 58)), .val ?_, .val ?_] [] (fun j k => j = 23 ∧ k = w.heap.size) (by kernel_rfl) (by decide +kernel) (by simp) rfl (by simp) ?hstab ?hown ?hdis ?hchain ?hend
      case hstab => exact Rg.stable_val (Rg.stable_val (Rg.stable_val (Rg.stable_val (Rg.stable_val (Rg.stable_val (Rg.stable_val (Rg.stable_val (Rg.stable_val (Rg.stable_val (Rg.stable_val (Rg.stable_val (Rg.stable_val (Rg.stable_val (Rg.stable_val (Rg.stable_val (Rg.stable_val (Rg.stable_val (Rg.stable_val (Rg.stable_val (Rg.stable_val (Rg.stable_val (Rg.stable_val (Rg.stable_box (Rg.stable_val (Rg.stable_val (Rg.stable_nil))))))))))))))))))))))))))
      case hchain =>
        intro vs
        -- 0: slot 47 := Op.move t0
        refine Rg.Chain.pure rfl (fun w => by go_simp; (try go_ints); with_reducible rfl) ?_
        simp only [Act.put, List.setIfInBounds_toArray, List.set_cons_succ, List.set_cons_zero]
        -- 1: slot 48 := Op.index 9 t47 (const (1:i64))
        refine Rg.Chain.pure rfl (fun w => by go_simp; (try go_ints); with_reducible rfl) ?_
        simp only [Act.put, List.setIfInBounds_toArray, List.set_cons_succ, List.set_cons_zero]
        -- 2: slot 49 := Op.convert 5 3 t48
        refine Rg.Chain.pure rfl (fun w => by go_simp; (try go_ints); with_reducible rfl) ?_
        simp only [Act.put, List.setIfInBounds_toArray, List.set_cons_succ, List.set_cons_zero]
        -- 3: slot 50 := Op.move t0
        refine Rg.Chain.pure rfl (fun w => by go_simp; (try go_ints); with_reducible rfl) ?_
        simp only [Act.put, List.setIfInBounds_toArray, List.set_cons_succ, List.set_cons_zero]
        -- 4: slot 51 := Op.index 9 t50 (const (2:i64))
        refine Rg.Chain.pure rfl (fun w => by go_simp; (try go_ints); with_reducible rfl) ?_
        simp only [Act.put, List.setIfInBounds_toArray, List.set_cons_succ, List.set_cons_zero]
        -- 5: slot 52 := Op.convert 5 3 t51
        refine Rg.Chain.pure rfl (fun w => by go_simp; (try go_ints); with_reducible rfl) ?_
        simp only [Act.put, List.setIfInBounds_toArray, List.set_cons_succ, List.set_cons_zero]
        -- 6: slot 53 := Op.binOp BinOp.mul 3 t52 (const (256:i64)) 3
        refine Rg.Chain.pure rfl (fun w => by go_simp; (try go_ints); with_reducible rfl) ?_
        simp only [Act.put, List.setIfInBounds_toArray, List.set_cons_succ, List.set_cons_zero]
        -- 7: slot 54 := Op.move t0
        refine Rg.Chain.pure rfl (fun w => by go_simp; (try go_ints); with_reducible rfl) ?_
        simp only [Act.put, List.setIfInBounds_toArray, List.set_cons_succ, List.set_cons_zero]
        -- 8: slot 55 := Op.index 9 t54 (const (3:i64))
        refine Rg.Chain.pure rfl (fun w => by go_simp; (try go_ints); with_reducible rfl) ?_
        simp only [Act.put, List.setIfInBounds_toArray, List.set_cons_succ, List.set_cons_zero]
        -- 9: slot 56 := Op.convert 5 3 t55
        refine Rg.Chain.pure rfl (fun w => by go_simp; (try go_ints); with_reducible rfl) ?_
        simp only [Act.put, List.setIfInBounds_toArray, List.set_cons_succ, List.set_cons_zero]
        -- 10: slot 57 := Op.binOp BinOp.add 3 t53 t56 3
        refine Rg.Chain.pure rfl (fun w => by go_simp; (try go_ints); with_reducible rfl) ?_
        simp only [Act.put, List.setIfInBounds_toArray, List.set_cons_succ, List.set_cons_zero]
        -- 11: slot 58 := Op.move t0
        refine Rg.Chain.pure rfl (fun w => by go_simp; (try go_ints); with_reducible rfl) ?_
        simp only [Act.put, List.setIfInBounds_toArray, List.set_cons_succ, List.set_cons_zero]
        -- 12: slot 59 := Op.move t5
        refine Rg.Chain.pure rfl (fun w => by go_simp; (try go_ints); with_reducible rfl) ?_
        simp only [Act.put, List.setIfInBounds_toArray, List.set_cons_succ, List.set_cons_zero]
        -- 13: slot 60 := Op.binOp BinOp.add 3 (const (8:i64)) t59 3
        refine Rg.Chain.pure rfl (fun w => by go_simp; (try go_ints); with_reducible rfl) ?_
        simp only [Act.put, List.setIfInBounds_toArray, List.set_cons_succ, List.set_cons_zero]
        -- 14: slot 61 := Op.slice 9 t58 (some (const (8:i64))) (some t60) none
        refine Rg.Chain.pure rfl (fun w => by go_simp; (try go_ints); with_reducible rfl) ?_
        simp only [Act.put, List.setIfInBounds_toArray, List.set_cons_succ, List.set_cons_zero]
        -- 15: slot 62 := Op.move t6
        refine Rg.Chain.pure rfl (fun w => by go_simp; (try go_ints); with_reducible rfl) ?_
        simp only [Act.put, List.setIfInBounds_toArray, List.set_cons_succ, List.set_cons_zero]
        -- 16: slot 63 := Op.build 58 #[(0, t49), (1, t57), (2, t61), (3, t62)]
        refine Rg.Chain.pure rfl (fun w => by go_simp; (try go_ints); with_reducible rfl) ?_
        simp only [Act.put, List.setIfInBounds_toArray, List.set_cons_succ, List.set_cons_zero]
        -- 17: slot 64 := Op.move t0
        refine Rg.Chain.pure rfl (fun w => by go_simp; (try go_ints); with_reducible rfl) ?_
        simp only [Act.put, List.setIfInBounds_toArray, List.set_cons_succ, List.set_cons_zero]
        -- 18: slot 65 := Op.move t5
        refine Rg.Chain.pure rfl (fun w => by go_simp; (try go_ints); with_reducible rfl) ?_
        simp only [Act.put, List.setIfInBounds_toArray, List.set_cons_succ, List.set_cons_zero]
        -- 19: slot 66 := Op.binOp BinOp.add 3 (const (8:i64)) t65 3
        refine Rg.Chain.pure rfl (fun w => by go_simp; (try go_ints); with_reducible rfl) ?_
        simp only [Act.put, List.setIfInBounds_toArray, List.set_cons_succ, List.set_cons_zero]
        -- 20: slot 67 := Op.move t6
        refine Rg.Chain.pure rfl (fun w => by go_simp; (try go_ints); with_reducible rfl) ?_
        simp only [Act.put, List.setIfInBounds_toArray, List.set_cons_succ, List.set_cons_zero]
        -- 21: slot 68 := Op.binOp BinOp.add 3 t66 t67 3
        refine Rg.Chain.pure rfl (fun w => by go_simp; (try go_ints); with_reducible rfl) ?_
        simp only [Act.put, List.setIfInBounds_toArray, List.set_cons_succ, List.set_cons_zero]
        -- 22: slot 69 := Op.slice 9 t64 (some t68) none none
        refine Rg.Chain.pure rfl (fun w => by go_simp; (try go_ints); with_reducible rfl) ?_
        simp only [Act.put, List.setIfInBounds_toArray, List.set_cons_succ, List.set_cons_zero]
        -- 23: slot none := Op.store 58 t2 t63
        refine Rg.Chain.store hnew ⟨rfl, rfl⟩ rfl (fun wx hs hx => eight_run _ _ _ _ hx) ?_
        simp only [Act.put]
        -- 24: slot 3 := Op.assign t69
        refine Rg.Chain.pure rfl (fun w => by go_simp; (try go_ints); with_reducible rfl) ?_
        simp only [Act.put, List.setIfInBounds_toArray, List.set_cons_succ, List.set_cons_zero]
        -- 25: slot 4 := Op.assign (const (0:i64))
        refine Rg.Chain.pure rfl (fun w => by go_simp; (try go_ints); with_reducible rfl) ?_
        simp only [Act.put, List.setIfInBounds_toArray, List.set_cons_succ, List.set_cons_zero]
        exact Rg.Chain.nil
      case hown => rintro j k ⟨_, rfl⟩; exact box_lt hnew
      case hdis => rintro i j k ⟨rfl, _⟩ ⟨rfl, _⟩; rfl
      case hend =>
        intro vs F w2 hE
        have hrow := hE.fact 23 _ (Rg.kept 23 (by decide)) rfl
        have hb2 := Rg.step_from hE.step (B := w.heap.size) W0.size (by rintro j k ⟨_, rfl⟩; exact Nat.le_refl _)
        clear hE
        have cr := box_cells hrow.1
        simp only [Rg.finalAct, Rg.slot_val, Act.put, List.setIfInBounds_toArray, List.set_cons_succ, List.set_cons_zero]
        go_wp2
        have c0 := cr 0
        have c1 := cr 1
        have c2 := cr 2
        have c3 := cr 3
        exact bodyPost_ret (v := .tuple #[(⟨at0 s 1, at0 s 2 * 256 + at0 s 3, (s.take (8 + n).toNat).drop 8, at0 s 6⟩ : Rec).v, .string (bs (s.drop (8 + n + at0 s 6).toNat)), .int .i64 0]) (by simp [results, Tryd.results31, go_sem, c0, c1, c2, c3]) rfl ⟨rfl, W0.trans hb2⟩

theorem rread_any (s : Bs) (w : World) :
    Calls Tryd.prog 31 #[.string (bs s)] w fun e w' => e = .returned (.tuple #[(recRead s).1.v, .string (bs (recRead s).2.1), .int .i64 (recRead s).2.2]) ∧ Below w.heap.size w w' := by
  by_cases h1 : s = [] ∨ at0 s 0 = 1
  · by_cases h2 : s.length < 8
    · rw [recRead_short h1 h2]; exact rread_short s w h1 h2
    · have h2 : 8 ≤ s.length := by omega
      have h1 : at0 s 0 = 1 := by
        rcases h1 with rfl | h
        · simp at h2
        · exact h
      exact rread_head s w h1 h2
  · have a : ¬ s = [] := fun h => h1 (.inl h)
    have b : ¬ at0 s 0 = 1 := fun h => h1 (.inr h)
    rw [recRead_ver a b]; exact rread_ver s w a b
end Go.Proofs.YtfhddeghmlnobaaDoor
