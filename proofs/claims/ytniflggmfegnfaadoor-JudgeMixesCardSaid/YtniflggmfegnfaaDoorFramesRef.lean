/- What the reference's Split, Pairs, Build, Abort, SameRecords compute: the same as the package frames. Conditions: as there. -/
import Derived.Test.YtniflggmfegnfaaDoorKnown18
import Derived.Test.YtniflggmfegnfaaDoorOpenP
import Derived.BigQuiet
namespace Go.Proofs.YtniflggmfegnfaaDoor
open Go.RowKit

theorem split_end (t i : Int) (acc : List Rec) (s : Bs) (h : splitR t i s = acc ++ splitR t i []) : splitR t i s = acc ++ [⟨t, i, [], 0⟩] := by
  rw [h]; congr 1; unfold splitR; simp

set_option maxRecDepth 100000 in
set_option maxHeartbeats 4000000 in
theorem rsplit_any (t i : Int) (s : Bs) (w : World) (hs : s.length ≤ 1000000) :
    Calls Tryd.prog 14 #[.int .i64 t, .int .i64 i, .string (bs s)] w fun e w' => ∃ v, e = .returned v ∧ w'.ownsRow w.heap.size 33 4 v (splitR t i s).length (recCells (splitR t i s)) ∧ Below w.heap.size w w' := by
  go_enter Tryd.func14, Tryd.ntmps14
  go_wp2_with fail
  go_loopw [7, 2] (fun o r wr => ∃ (acc : List Rec) (rest : Bs), r = .string (bs rest) ∧ splitR t i s = acc ++ splitR t i rest ∧ acc.length + rest.length ≤ s.length ∧ wr.ownsRow w.heap.size 33 4 o acc.length (recCells acc) ∧ Below w.heap.size w wr) (fun _ r _ => textLen r)
  case atStart => exact ⟨[], s, rfl, rfl, by simp, ⟨rfl, .inl ⟨rfl, rfl⟩⟩, Below.refl _ _⟩
  case round =>
    obtain ⟨acc, rest, rfl, hsp, hle, hrow, hW⟩ := hrel
    by_cases hnil : rest = []
    · subst hnil
      have hsp' := split_end t i acc s hsp
      have o1 := hrow.alloc (.cells #[.int .i64 t, .int .i64 i, .string (bs []), .int .i64 0] 33)
      have r1 := row_rec wr ⟨t, i, [], 0⟩
      have o2 := own_up (B := w.heap.size) r1.1 (fun k hk => by have := r1.2 k hk; subst this; exact hW.size)
      have W1 := hW.alloc hW.size (.cells #[.int .i64 t, .int .i64 i, .string (bs []), .int .i64 0] 33)
      simp only at o2
      clear r1 hrow hW hsp
      go_wp2_with (at_builtin; refine wpList_append_rows o1 o2 W1.size (rec_one _) (by simp at hle; omega) rfl _ _ rfl rfl rfl rfl ?_; intro v4 w4 o4 hb4)
      go_ret
      refine ⟨v4, rfl, ?_, W1.trans hb4⟩
      rw [hsp', recCells_append, List.length_append]
      exact o4
    · have hpos : 0 < rest.length := List.length_pos_iff.2 hnil
      go_wp2_with fail
      all_goals
        obtain ⟨n, hn, hn', hn0, hn1⟩ : ∃ n : Int, (n = (rest.length : Int) ∨ n = 512) ∧ n = min (rest.length : Int) 512 ∧ 0 ≤ n ∧ n ≤ rest.length := ⟨min (rest.length : Int) 512, by omega, rfl, by omega, by omega⟩
        have hne : n ≠ 0 := by omega
        have HE := Lib.hid hne
        clear hne
        rw [show min (512 : Int) (rest.length : Int) = n by omega]
        have HN := Lib.hid hn'
        clear hn hn'
        have hz := hW.size
        have hown : ∀ (j : Nat) (k : Nat), (j = 0 ∧ u7.ownBlock = some k) → w.heap.size ≤ k := fun j k h => (hrow.lt k h.2).1
        refine Rg.region1 35 [.any (Rg.Row 33 4 acc.length (recCells acc)), .val ?_, .val ?_, .val ?_, .val ?_, .val ?_, .val ?_, .val (.int .i64 (padN n)), .val ?_, .any (Rg.Row 33 4 1 (recCells [⟨t, i, rest.take n.toNat, padN n⟩])), .any (Rg.Row 33 4 (acc.length + 1) (recCells acc ++ recCells [⟨t, i, rest.take n.toNat, padN n⟩])), .any (Rg.Row 33 4 (acc.length + 1) (recCells acc ++ recCells [⟨t, i, rest.take n.toNat, padN n⟩]))] [[], [], [], [], [], [], [], [], [], [], [0], [10]] (fun j k => j = 0 ∧ u7.ownBlock = some k) (by kernel_rfl) (by decide +kernel) (by simp) rfl (by simp) ?hstab ?hown ?hdis ?hchain ?hend
        case hstab => exact Rg.stable_row (Rg.stable_val (Rg.stable_val (Rg.stable_val (Rg.stable_val (Rg.stable_val (Rg.stable_val (Rg.stable_val (Rg.stable_val (Rg.stable_row (Rg.stable_row (Rg.stable_row (Rg.stable_nil))))))))))))
        case hchain =>
          intro vs
          -- 0: slot 15 := Op.move t7
          refine Rg.Chain.start (Rg.ownsRow_zero hrow) (fun k hk => ⟨rfl, hk⟩) rfl (fun w => by go_simp) ?_
          simp only [Act.put, List.setIfInBounds_toArray, List.set_cons_succ, List.set_cons_zero]
          -- 1: slot 16 := Op.move t0
          refine Rg.Chain.pure rfl (fun w => by go_simp; (try go_ints); with_reducible rfl) ?_
          simp only [Act.put, List.setIfInBounds_toArray, List.set_cons_succ, List.set_cons_zero]
          -- 2: slot 17 := Op.move t1
          refine Rg.Chain.pure rfl (fun w => by go_simp; (try go_ints); with_reducible rfl) ?_
          simp only [Act.put, List.setIfInBounds_toArray, List.set_cons_succ, List.set_cons_zero]
          -- 3: slot 18 := Op.move t2
          refine Rg.Chain.pure rfl (fun w => by go_simp; (try go_ints); with_reducible rfl) ?_
          simp only [Act.put, List.setIfInBounds_toArray, List.set_cons_succ, List.set_cons_zero]
          -- 4: slot 19 := Op.move t8
          refine Rg.Chain.pure rfl (fun w => by go_simp; (try go_ints); with_reducible rfl) ?_
          simp only [Act.put, List.setIfInBounds_toArray, List.set_cons_succ, List.set_cons_zero]
          -- 5: slot 20 := Op.slice 9 t18 none (some t19) none
          refine Rg.Chain.pure rfl (fun w => by go_simp; (try go_ints); with_reducible rfl) ?_
          simp only [Act.put, List.setIfInBounds_toArray, List.set_cons_succ, List.set_cons_zero]
          -- 6: slot 21 := Op.move t8
          refine Rg.Chain.pure rfl (fun w => by go_simp; (try go_ints); with_reducible rfl) ?_
          simp only [Act.put, List.setIfInBounds_toArray, List.set_cons_succ, List.set_cons_zero]
          -- 7: slot 22 := Op.call ( value (Operand.func 21), args := #[t21], argTypes := #[3] )
          refine Rg.Chain.call ?_ ?_ rfl (fun w => ?_) (fun wx hs => ?_) ?_
          rotate_left 2
          · go_simp; (try go_ints); constructor <;> with_reducible rfl
          · exact rpad_any _ _
          simp only [Act.put, List.setIfInBounds_toArray, List.set_cons_succ, List.set_cons_zero]
          -- 8: slot 23 := Op.build 33 #[(0, t16), (1, t17), (2, t20), (3, t22)]
          refine Rg.Chain.pure rfl (fun w => by go_simp; (try go_ints); with_reducible rfl) ?_
          simp only [Act.put, List.setIfInBounds_toArray, List.set_cons_succ, List.set_cons_zero]
          -- 9: slot 24 := Op.buildSlice 26 1 #[(0, t23)]
          refine Rg.Chain.new ?_ ?_ rfl (fun w => ?_) (fun w => ?_) ?_
          rotate_left 2
          · go_simp; (try go_ints); (first | with_reducible rfl | (constructor <;> with_reducible rfl))
          · exact row_rec w ⟨t, i, rest.take n.toNat, padN n⟩
          simp only [Act.put, List.setIfInBounds_toArray, List.set_cons_succ, List.set_cons_zero]
          -- 10: slot 25 := Op.call ( builtin append, args := #[t15, t24], argTypes := #[26, 26] )
          obtain ⟨ti, hti, hzz, hsz, hby⟩ := inf_rec
          refine Rg.Chain.append 0 9 rfl 26 33 _ _ ti _ _ _ rfl rfl rfl (Tryd.underlying26) hti hzz hsz hby rfl (by decide) rfl rfl (by decide) (by decide) (Rg.only 10 0 (by decide)) (Rg.only 10 9 (by decide)) (by decide) (rec_one _) (by simp [maxLen]; omega) (by omega) ?_
          simp only [Act.put, List.setIfInBounds_toArray, List.set_cons_succ, List.set_cons_zero]
          -- 11: slot 7 := Op.assign t25
          refine Rg.Chain.take 10 rfl rfl (by decide) (Rg.only 11 10 (by decide)) (by decide) (fun w => by go_simp) ?_
          simp only [Act.put, List.setIfInBounds_toArray, List.set_cons_succ, List.set_cons_zero]
          exact Rg.Chain.nil
        case hown => rintro j k ⟨_, h⟩; exact (hrow.lt k h).2
        case hdis => rintro i j k ⟨rfl, _⟩ ⟨rfl, _⟩; rfl
        case hend =>
          intro vs F w2 hE
          have hrow2 := Rg.end_row (B := w.heap.size) hE (Rg.kept 11 (by decide)) rfl hz hown
          have hb2 := Rg.step_from hE.step hz hown
          clear hE hown
          rw [← recCells_append, show acc.length + 1 = (acc ++ [(⟨t, i, rest.take n.toNat, padN n⟩ : Rec)]).length from by simp] at hrow2
          simp only [Rg.finalAct, Rg.slot_val, Rg.slot_any, Act.put, List.setIfInBounds_toArray, List.set_cons_succ, List.set_cons_zero]
          generalize vs 11 = v11 at hrow2 ⊢
          have W2 := hW.trans hb2
          rw [split_more t i n rest acc HN.out HE.out] at hsp
          go_wp2_with fail
          go_roundw
          case rel => exact ⟨acc ++ [⟨t, i, rest.take n.toNat, padN n⟩], rest.drop n.toNat, rfl, hsp, by have := HE.out; simp; omega, hrow2, W2⟩
          case measure => have := HE.out; simp [textLen, bs_size]; omega
end Go.Proofs.YtniflggmfegnfaaDoor
