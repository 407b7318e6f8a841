/- What pair.one computes: the pair in front of bytes, what is behind, or that bytes lack. No condition. -/
import Derived.Test.YtniflggmfegnfaaDoorLengths
import Derived.Test.YtniflggmfegnfaaDoorOpenP
import Derived.Test.YtniflggmfegnfaaDoorStore
import Derived.BigQuiet
namespace Go.Proofs.YtniflggmfegnfaaDoor
open Go.RowKit

def oneP (s : Bs) : Option ((Bs × Bs) × Bs) :=
  if LenOk s ∧ LenOk (lenTail s) ∧ lenN s + lenN (lenTail s) ≤ ((lenTail (lenTail s)).length : Int) then
    some (((lenTail (lenTail s)).take (lenN s).toNat, ((lenTail (lenTail s)).take (lenN s + lenN (lenTail s)).toNat).drop (lenN s).toNat), (lenTail (lenTail s)).drop (lenN s + lenN (lenTail s)).toNat)
  else none

theorem pair_world {w w1 : World} {b : Nat} {c0 c1 : Value} {e : TypeId} (h : w1.heap[b]? = some (.cells #[c0, c1] e)) :
    w1.cell? ⟨b, 0, none⟩ = some c0 ∧ w1.cell? ⟨b, 1, none⟩ = some c1 ∧ w1.frozen? ⟨b, 0, none⟩ = false ∧ w1.frozen? ⟨b, 1, none⟩ = false ∧ b < w1.heap.size :=
  ⟨box_cells h 0, box_cells h 1, box_free h 0, box_free h 1, box_lt h⟩
theorem below_store2 {w w1 : World} {b : Nat} (h : Below w.heap.size w w1) (hb : w.heap.size ≤ b) (x y : Value) : Below w.heap.size w ((w1.setCell ⟨b, 0, none⟩ x).setCell ⟨b, 1, none⟩ y) :=
  (h.setCell hb _).setCell hb _
theorem run_store_pair (w : World) (b : Nat) (c0 c1 : Value) (x y : ByteArray) (h : w.heap[b]? = some (.cells #[c0, c1] 29)) :
    (Instr.storeAt 29 (.pointer (some ⟨b, 0, none⟩)) (.agg #[.string x, .string y])).run Tryd.prog w = .ok () ((w.setCell ⟨b, 0, none⟩ (.string x)).setCell ⟨b, 1, none⟩ (.string y)) := by
  have c := box_cells h
  have f := box_free h
  have q0 := c 0
  have q1 := c 1
  have f0 := f 0
  have f1 := f 1
  have z := box_lt h
  clear c f
  simp only [List.getElem?_toArray, List.getElem?_cons_zero, List.getElem?_cons_succ] at q0 q1
  go_simp
theorem stored_pair {w : World} {b : Nat} {c0 c1 : Value} {T : TypeId} (h : w.heap[b]? = some (.cells #[c0, c1] T)) (v0 v1 : Value) :
    ((w.setCell ⟨b, 0, none⟩ v0).setCell ⟨b, 1, none⟩ v1).heap[b]? = some (.cells #[v0, v1] T) := set_box (set_box h v0) v1
theorem pair_run {wx : World} {b : Nat} {c0 c1 : Value} (x y : ByteArray) (h : wx.heap[b]? = some (.cells #[c0, c1] 29)) :
    ∃ w', ((do let _ ← Instr.storeAt 29 (.pointer (some ⟨b, 0, none⟩)) (.agg #[.string x, .string y]); pure .skip : Sem Next)).run Tryd.prog wx = .ok .skip w' ∧ w'.heap[b]? = some (.cells #[.string x, .string y] 29) ∧ Rg.Step (fun k => k = b) wx w' := by
  refine ⟨_, ?_, stored_pair h _ _, (Rg.step_set _ _ _ _).trans (Rg.step_set _ _ _ _)⟩
  rw [Sem.run_bind, run_store_pair wx b c0 c1 x y h]
  rfl

set_option maxRecDepth 100000 in
set_option maxHeartbeats 2000000 in
theorem one_no (s : Bs) (w : World) (h : oneP s = none) :
    Calls Tryd.prog 51 #[.string (bs s)] w fun e w' => (∃ r, e = .returned (.tuple #[.agg #[.string (bs []), .string (bs [])], .string (bs r), eV 11])) ∧ Below w.heap.size w w' := by
  by_cases h1 : LenOk s
  · have HL1 := Lib.hid (fun w => length_ok s w h1)
    by_cases h2 : LenOk (lenTail s)
    · have HL2 := Lib.hid (fun w => length_ok (lenTail s) w h2)
      have h3 : ¬ lenN s + lenN (lenTail s) ≤ ((lenTail (lenTail s)).length : Int) := by
        intro h3
        unfold oneP at h
        rw [if_pos ⟨h1, h2, h3⟩] at h
        cases h
      have l1 := lenN_lo s
      have l2 := lenN_lo (lenTail s)
      clear h h1 h2
      generalize lenN s = n at *
      generalize lenTail s = s1 at *
      generalize lenN s1 = m at *
      generalize lenTail s1 = s2 at *
      obtain ⟨n0, n1⟩ := l1
      obtain ⟨m0, m1⟩ := l2
      have q : decide ((s2.length : Int) < n + m) = true := by simp; omega
      clear h3
      go_enter Tryd.func51, Tryd.ntmps51
      go_wp2_with fail
      refine (HL1.out _).mono ?_
      rintro e w1 ⟨rfl, hb⟩
      have b0 := new_alloc hb
      have W1 := below_after hb
      clear hb
      go_wp2_with fail
      refine (HL2.out _).mono ?_
      rintro e w2 ⟨rfl, hb⟩
      replace b0 := kept b0 hb
      have W2 := below_later W1 hb
      clear hb W1
      obtain ⟨c0, c1, f0, f1, hz⟩ := pair_world (w := w) b0
      go_wp2_with fail
      exact bodyPost_ret (v := .tuple #[.agg #[.string (bs []), .string (bs [])], .string (bs s2), eV 11]) (by simp [results, Tryd.results51, go_sem, c0, c1]) rfl ⟨⟨s2, rfl⟩, below_store2 W2 (Nat.le_refl _) _ _⟩
    · have HL2 := Lib.hid (fun w => length_no (lenTail s) w h2)
      clear h h1 h2
      generalize lenN s = n at *
      generalize lenTail s = s1 at *
      go_enter Tryd.func51, Tryd.ntmps51
      go_wp2_with fail
      refine (HL1.out _).mono ?_
      rintro e w1 ⟨rfl, hb⟩
      have b0 := new_alloc hb
      have W1 := below_after hb
      clear hb
      go_wp2_with fail
      refine (HL2.out _).mono ?_
      rintro e w2 ⟨rfl, hb⟩
      replace b0 := kept b0 hb
      have W2 := below_later W1 hb
      clear hb W1
      obtain ⟨c0, c1, f0, f1, hz⟩ := pair_world (w := w) b0
      go_wp2_with fail
      exact bodyPost_ret (v := .tuple #[.agg #[.string (bs []), .string (bs [])], .string (bs s1), eV 11]) (by simp [results, Tryd.results51, go_sem, c0, c1]) rfl ⟨⟨s1, rfl⟩, below_store2 W2 (Nat.le_refl _) _ _⟩
  · have HL1 := Lib.hid (fun w => length_no s w h1)
    clear h h1
    go_enter Tryd.func51, Tryd.ntmps51
    go_wp2_with fail
    refine (HL1.out _).mono ?_
    rintro e w1 ⟨rfl, hb⟩
    have b0 := new_alloc hb
    have W1 := below_after hb
    clear hb
    obtain ⟨c0, c1, f0, f1, hz⟩ := pair_world (w := w) b0
    go_wp2_with fail
    exact bodyPost_ret (v := .tuple #[.agg #[.string (bs []), .string (bs [])], .string (bs s), eV 11]) (by simp [results, Tryd.results51, go_sem, c0, c1]) rfl ⟨⟨s, rfl⟩, below_store2 W1 (Nat.le_refl _) _ _⟩

set_option maxRecDepth 100000 in
set_option maxHeartbeats 4000000 in
theorem one_ok (s : Bs) (w : World) (p : Bs × Bs) (rest : Bs) (h : oneP s = some (p, rest)) :
    Calls Tryd.prog 51 #[.string (bs s)] w fun e w' => e = .returned (.tuple #[.agg #[.string (bs p.1), .string (bs p.2)], .string (bs rest), .nilIface]) ∧ Below w.heap.size w w' := by
  unfold oneP at h
  split at h
  next hh =>
    obtain ⟨h1, h2, h3⟩ := hh
    simp only [Option.some.injEq, Prod.mk.injEq] at h
    obtain ⟨rfl, rfl⟩ := h
    have HL1 := Lib.hid (fun w => length_ok s w h1)
    have HL2 := Lib.hid (fun w => length_ok (lenTail s) w h2)
    have l1 := lenN_lo s
    have l2 := lenN_lo (lenTail s)
    clear h1 h2
    generalize lenN s = n at *
    generalize lenTail s = s1 at *
    generalize lenN s1 = m at *
    generalize lenTail s1 = s2 at *
    obtain ⟨n0, n1⟩ := l1
    obtain ⟨m0, m1⟩ := l2
    have q : decide ((s2.length : Int) < n + m) = false := by simp; omega
    have e1 : n ≤ (s2.length : Int) := by omega
    have e2 : 0 ≤ n + m := by omega
    have e3 : n ≤ n + m := by omega
    go_enter Tryd.func51, Tryd.ntmps51
    go_wp2_with fail
    refine (HL1.out _).mono ?_
    rintro e w1 ⟨rfl, hb⟩
    have b0 := new_alloc hb
    have W1 := below_after hb
    clear hb
    go_wp2_with fail
    refine (HL2.out _).mono ?_
    rintro e w2 ⟨rfl, hb⟩
    replace b0 := kept b0 hb
    have W2 := below_later W1 hb
    clear hb W1
    go_wp2_with fail
    refine Rg.region1 54 [.val ?_, .val ?_, .val ?_, .val ?_, .val ?_, .val ?_, .val ?_, .val ?_, .val ?_, .val ?_, .val ?_, .val ?_, .val ?_, .val ?_, .val ?_, .any (Rg.Box w.heap.size (.cells #[.string (bs (s2.take n.toNat)), .string (bs ((s2.take (n + m).toNat).drop n.toNat))] 29)), .val ?_, .val ?_] [] (fun j k => j = 15 ∧ k = w.heap.size) (by kernel_rfl) (by decide +kernel) (by simp) rfl (by simp) ?hstab ?hown ?hdis ?hchain ?hend
    case hstab => exact Rg.stable_val (Rg.stable_val (Rg.stable_val (Rg.stable_val (Rg.stable_val (Rg.stable_val (Rg.stable_val (Rg.stable_val (Rg.stable_val (Rg.stable_val (Rg.stable_val (Rg.stable_val (Rg.stable_val (Rg.stable_val (Rg.stable_val (Rg.stable_box (Rg.stable_val (Rg.stable_val (Rg.stable_nil))))))))))))))))))
    case hchain =>
      intro vs
      -- 0: slot 39 := Op.move t0
      refine Rg.Chain.pure rfl (fun w => by go_simp; (try go_ints); with_reducible rfl) ?_
      simp only [Act.put, List.setIfInBounds_toArray, List.set_cons_succ, List.set_cons_zero]
      -- 1: slot 40 := Op.move t5
      refine Rg.Chain.pure rfl (fun w => by go_simp; (try go_ints); with_reducible rfl) ?_
      simp only [Act.put, List.setIfInBounds_toArray, List.set_cons_succ, List.set_cons_zero]
      -- 2: slot 41 := Op.slice 9 t39 none (some t40) none
      refine Rg.Chain.pure rfl (fun w => by go_simp; (try go_ints); with_reducible rfl) ?_
      simp only [Act.put, List.setIfInBounds_toArray, List.set_cons_succ, List.set_cons_zero]
      -- 3: slot 42 := Op.move t0
      refine Rg.Chain.pure rfl (fun w => by go_simp; (try go_ints); with_reducible rfl) ?_
      simp only [Act.put, List.setIfInBounds_toArray, List.set_cons_succ, List.set_cons_zero]
      -- 4: slot 43 := Op.move t5
      refine Rg.Chain.pure rfl (fun w => by go_simp; (try go_ints); with_reducible rfl) ?_
      simp only [Act.put, List.setIfInBounds_toArray, List.set_cons_succ, List.set_cons_zero]
      -- 5: slot 44 := Op.move t5
      refine Rg.Chain.pure rfl (fun w => by go_simp; (try go_ints); with_reducible rfl) ?_
      simp only [Act.put, List.setIfInBounds_toArray, List.set_cons_succ, List.set_cons_zero]
      -- 6: slot 45 := Op.move t7
      refine Rg.Chain.pure rfl (fun w => by go_simp; (try go_ints); with_reducible rfl) ?_
      simp only [Act.put, List.setIfInBounds_toArray, List.set_cons_succ, List.set_cons_zero]
      -- 7: slot 46 := Op.binOp BinOp.add 3 t44 t45 3
      refine Rg.Chain.pure rfl (fun w => by go_simp; (try go_ints); with_reducible rfl) ?_
      simp only [Act.put, List.setIfInBounds_toArray, List.set_cons_succ, List.set_cons_zero]
      -- 8: slot 47 := Op.slice 9 t42 (some t43) (some t46) none
      refine Rg.Chain.pure rfl (fun w => by go_simp; (try go_ints); with_reducible rfl) ?_
      simp only [Act.put, List.setIfInBounds_toArray, List.set_cons_succ, List.set_cons_zero]
      -- 9: slot 48 := Op.build 29 #[(0, t41), (1, t47)]
      refine Rg.Chain.pure rfl (fun w => by go_simp; (try go_ints); with_reducible rfl) ?_
      simp only [Act.put, List.setIfInBounds_toArray, List.set_cons_succ, List.set_cons_zero]
      -- 10: slot 49 := Op.move t0
      refine Rg.Chain.pure rfl (fun w => by go_simp; (try go_ints); with_reducible rfl) ?_
      simp only [Act.put, List.setIfInBounds_toArray, List.set_cons_succ, List.set_cons_zero]
      -- 11: slot 50 := Op.move t5
      refine Rg.Chain.pure rfl (fun w => by go_simp; (try go_ints); with_reducible rfl) ?_
      simp only [Act.put, List.setIfInBounds_toArray, List.set_cons_succ, List.set_cons_zero]
      -- 12: slot 51 := Op.move t7
      refine Rg.Chain.pure rfl (fun w => by go_simp; (try go_ints); with_reducible rfl) ?_
      simp only [Act.put, List.setIfInBounds_toArray, List.set_cons_succ, List.set_cons_zero]
      -- 13: slot 52 := Op.binOp BinOp.add 3 t50 t51 3
      refine Rg.Chain.pure rfl (fun w => by go_simp; (try go_ints); with_reducible rfl) ?_
      simp only [Act.put, List.setIfInBounds_toArray, List.set_cons_succ, List.set_cons_zero]
      -- 14: slot 53 := Op.slice 9 t49 (some t52) none none
      refine Rg.Chain.pure rfl (fun w => by go_simp; (try go_ints); with_reducible rfl) ?_
      simp only [Act.put, List.setIfInBounds_toArray, List.set_cons_succ, List.set_cons_zero]
      -- 15: slot none := Op.store 29 t2 t48
      refine Rg.Chain.store b0 ⟨rfl, rfl⟩ rfl (fun wx hs hx => pair_run _ _ hx) ?_
      simp only [Act.put]
      -- 16: slot 3 := Op.assign t53
      refine Rg.Chain.pure rfl (fun w => by go_simp; (try go_ints); with_reducible rfl) ?_
      simp only [Act.put, List.setIfInBounds_toArray, List.set_cons_succ, List.set_cons_zero]
      -- 17: slot 4 := Op.assign (const Value.nilIface)
      refine Rg.Chain.pure rfl (fun w => by go_simp; (try go_ints); with_reducible rfl) ?_
      simp only [Act.put, List.setIfInBounds_toArray, List.set_cons_succ, List.set_cons_zero]
      exact Rg.Chain.nil
    case hown => rintro j k ⟨_, rfl⟩; exact box_lt b0
    case hdis => rintro i j k ⟨rfl, _⟩ ⟨rfl, _⟩; rfl
    case hend =>
      intro vs F w3 hE
      have hrow := hE.fact 15 _ (Rg.kept 15 (by decide)) rfl
      have hb2 := Rg.step_from hE.step (B := w.heap.size) W2.size (by rintro j k ⟨_, rfl⟩; exact Nat.le_refl _)
      clear hE
      have cr := box_cells hrow.1
      simp only [Rg.finalAct, Rg.slot_val, Act.put, List.setIfInBounds_toArray, List.set_cons_succ, List.set_cons_zero]
      go_wp2
      have c0 := cr 0
      have c1 := cr 1
      exact bodyPost_ret (v := .tuple #[.agg #[.string (bs (s2.take n.toNat)), .string (bs ((s2.take (n + m).toNat).drop n.toNat))], .string (bs (s2.drop (n + m).toNat)), .nilIface]) (by simp [results, Tryd.results51, go_sem, c0, c1]) rfl ⟨rfl, W2.trans hb2⟩
  next => cases h
end Go.Proofs.YtniflggmfegnfaaDoor
