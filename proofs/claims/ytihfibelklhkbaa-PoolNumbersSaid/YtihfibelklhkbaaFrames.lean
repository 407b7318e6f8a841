/- What frames.Split and the reference's Split compute: bytes as records. Condition: at most a million bytes. -/
import Derived.Test.YtihfibelklhkbaaRec
import Derived.Test.YtihfibelklhkbaaApp
import Derived.Test.YtihfibelklhkbaaOpen
import Derived.Test.YtihfibelklhkbaaRecRow
namespace Go.Proofs.Ytihfibelklhkbaa
open Go.RowKit

/-- Bytes as records: so many of 512, the rest, and an empty one. -/
def splitR (t i : Int) (s : Bs) : List Rec :=
  if _h : s = [] then [⟨t, i, [], 0⟩] else ⟨t, i, s.take 512, padN (min (s.length : Int) 512)⟩ :: splitR t i (s.drop 512)
termination_by s.length
decreasing_by
  have : 0 < s.length := List.length_pos_iff.2 _h
  simp; omega

theorem split_done (t i : Int) (acc : List Rec) (s : Bs) (h : splitR t i s = acc ++ splitR t i []) : splitR t i s = acc ++ [⟨t, i, [], 0⟩] := by
  rw [h]; congr 1; unfold splitR; simp
theorem split_step (t i : Int) (s : Bs) (h : s ≠ []) : splitR t i s = ⟨t, i, s.take 512, padN (min (s.length : Int) 512)⟩ :: splitR t i (s.drop 512) := by
  rw [splitR.eq_def]; simp [h]

theorem split_take (n : Int) (s : Bs) (hn : n = min (s.length : Int) 512) : s.take 512 = s.take n.toNat ∧ s.drop 512 = s.drop n.toNat := by
  by_cases h : s.length ≤ 512
  · have e : n.toNat = s.length := by omega
    rw [e, List.take_of_length_le h, List.drop_of_length_le h, List.take_length, List.drop_length]
    exact ⟨rfl, rfl⟩
  · have e : n.toNat = 512 := by omega
    rw [e]; exact ⟨rfl, rfl⟩
theorem split_more (t i n : Int) (s : Bs) (acc : List Rec) (hn : n = min (s.length : Int) 512) (h : n ≠ 0) : acc ++ splitR t i s = (acc ++ [⟨t, i, s.take n.toNat, padN n⟩]) ++ splitR t i (s.drop n.toNat) := by
  have hs : s ≠ [] := by rintro rfl; apply h; rw [hn]; rfl
  obtain ⟨h1, h2⟩ := split_take n s hn
  rw [split_step t i s hs, h1, h2, hn, List.append_assoc]
  rfl
theorem split_last (t i n : Int) (s : Bs) (acc : List Rec) (hn : n = min (s.length : Int) 512) (h : n = 0) : acc ++ splitR t i s = acc ++ [⟨t, i, s.take n.toNat, padN n⟩] := by
  have hs : s = [] := List.eq_nil_of_length_eq_zero (by omega)
  subst hs
  subst h
  unfold splitR
  rfl

set_option maxRecDepth 100000 in
set_option maxHeartbeats 4000000 in
theorem split_any (t i : Int) (s : Bs) (w : World) (hs : s.length ≤ 1000000) :
    Calls Try.prog 41 #[.int .i64 t, .int .i64 i, .string (bs s)] w fun e w' => ∃ v, e = .returned v ∧ w'.ownsRow w.heap.size 96 4 v (splitR t i s).length (recCells (splitR t i s)) ∧ Below w.heap.size w w' := by
  go_enter Try.func41, Try.ntmps41
  go_wp2_with fail
  go_loopw [7, 2] (fun o r wr => ∃ (acc : List Rec) (rest : Bs), r = .string (bs rest) ∧ splitR t i s = acc ++ splitR t i rest ∧ acc.length + rest.length ≤ s.length ∧ wr.ownsRow w.heap.size 96 4 o acc.length (recCells acc) ∧ Below w.heap.size w wr) (fun _ r _ => textLen r)
  case atStart => exact ⟨[], s, rfl, rfl, by simp, ⟨rfl, .inl ⟨rfl, rfl⟩⟩, Below.refl _ _⟩
  case round =>
    obtain ⟨acc, rest, rfl, hsp, hle, hrow, hW⟩ := hrel
    go_wp2_with fail
    all_goals
      obtain ⟨n, hn, hn', hn0, hn1⟩ : ∃ n : Int, (n = (rest.length : Int) ∨ n = 512) ∧ n = min (rest.length : Int) 512 ∧ 0 ≤ n ∧ n ≤ rest.length := ⟨min (rest.length : Int) 512, by omega, rfl, by omega, by omega⟩
      first
      | (rw [show (512 : Int) = n by omega])
      | (rw [show (rest.length : Int) = n by omega])
      have HN := Lib.hid hn'
      clear hn hn'
      have hz := hW.size
      have hown : ∀ (j : Nat) (k : Nat), (j = 0 ∧ u7.ownBlock = some k) → w.heap.size ≤ k := fun j k h => (hrow.lt k h.2).1
      refine Rg.region1 29 [.any (Rg.Row 96 4 acc.length (recCells acc)), .val ?_, .val ?_, .val ?_, .val ?_, .val ?_, .val ?_, .val (.int .i64 (padN n)), .val ?_, .any (Rg.Row 96 4 1 (recCells [⟨t, i, rest.take n.toNat, padN n⟩])), .any (Rg.Row 96 4 (acc.length + 1) (recCells acc ++ recCells [⟨t, i, rest.take n.toNat, padN n⟩])), .any (Rg.Row 96 4 (acc.length + 1) (recCells acc ++ recCells [⟨t, i, rest.take n.toNat, padN n⟩]))] [[], [], [], [], [], [], [], [], [], [], [0], [10]] (fun j k => j = 0 ∧ u7.ownBlock = some k) (by kernel_rfl) (by decide +kernel) (by simp) rfl (by simp) ?hstab ?hown ?hdis ?hchain ?hend
      case hstab => exact Rg.stable_row (Rg.stable_val (Rg.stable_val (Rg.stable_val (Rg.stable_val (Rg.stable_val (Rg.stable_val (Rg.stable_val (Rg.stable_val (Rg.stable_row (Rg.stable_row (Rg.stable_row (Rg.stable_nil))))))))))))
      case hchain =>
        intro vs
        -- 0: slot 12 := Op.move t7
        refine Rg.Chain.start (Rg.ownsRow_zero hrow) (fun k hk => ⟨rfl, hk⟩) rfl (fun w => by go_simp) ?_
        simp only [Act.put, List.setIfInBounds_toArray, List.set_cons_succ, List.set_cons_zero]
        -- 1: slot 13 := Op.move t0
        refine Rg.Chain.pure rfl (fun w => by go_simp; (try go_ints); with_reducible rfl) ?_
        simp only [Act.put, List.setIfInBounds_toArray, List.set_cons_succ, List.set_cons_zero]
        -- 2: slot 14 := Op.move t1
        refine Rg.Chain.pure rfl (fun w => by go_simp; (try go_ints); with_reducible rfl) ?_
        simp only [Act.put, List.setIfInBounds_toArray, List.set_cons_succ, List.set_cons_zero]
        -- 3: slot 15 := Op.move t2
        refine Rg.Chain.pure rfl (fun w => by go_simp; (try go_ints); with_reducible rfl) ?_
        simp only [Act.put, List.setIfInBounds_toArray, List.set_cons_succ, List.set_cons_zero]
        -- 4: slot 16 := Op.move t8
        refine Rg.Chain.pure rfl (fun w => by go_simp; (try go_ints); with_reducible rfl) ?_
        simp only [Act.put, List.setIfInBounds_toArray, List.set_cons_succ, List.set_cons_zero]
        -- 5: slot 17 := Op.slice 9 t15 none (some t16) none
        refine Rg.Chain.pure rfl (fun w => by go_simp; (try go_ints); with_reducible rfl) ?_
        simp only [Act.put, List.setIfInBounds_toArray, List.set_cons_succ, List.set_cons_zero]
        -- 6: slot 18 := Op.move t8
        refine Rg.Chain.pure rfl (fun w => by go_simp; (try go_ints); with_reducible rfl) ?_
        simp only [Act.put, List.setIfInBounds_toArray, List.set_cons_succ, List.set_cons_zero]
        -- 7: slot 19 := Op.call ( value (Operand.func 55), args := #[t18], argTypes := #[3] )
        refine Rg.Chain.call ?_ ?_ rfl (fun w => ?_) (fun wx hs => ?_) ?_
        rotate_left 2
        · go_simp; (try go_ints); constructor <;> with_reducible rfl
        · exact pad_any _ _
        simp only [Act.put, List.setIfInBounds_toArray, List.set_cons_succ, List.set_cons_zero]
        -- 8: slot 20 := Op.build 96 #[(0, t13), (1, t14), (2, t17), (3, t19)]
        refine Rg.Chain.pure rfl (fun w => by go_simp; (try go_ints); with_reducible rfl) ?_
        simp only [Act.put, List.setIfInBounds_toArray, List.set_cons_succ, List.set_cons_zero]
        -- 9: slot 21 := Op.buildSlice 84 1 #[(0, t20)]
        refine Rg.Chain.new ?_ ?_ rfl (fun w => ?_) (fun w => ?_) ?_
        rotate_left 2
        · go_simp; (try go_ints); (first | with_reducible rfl | (constructor <;> with_reducible rfl))
        · exact row_rec w ⟨t, i, rest.take n.toNat, padN n⟩
        simp only [Act.put, List.setIfInBounds_toArray, List.set_cons_succ, List.set_cons_zero]
        -- 10: slot 22 := Op.call ( builtin append, args := #[t12, t21], argTypes := #[84, 84] )
        obtain ⟨ti, hti, hzz, hsz, hby⟩ := inf_rec
        refine Rg.Chain.append 0 9 rfl 84 96 _ _ ti _ _ _ rfl rfl rfl (Try.underlying84) hti hzz hsz hby rfl (by decide) rfl rfl (by decide) (by decide) (Rg.only 10 0 (by decide)) (Rg.only 10 9 (by decide)) (by decide) (rec_one _) (by simp [maxLen]; omega) (by omega) ?_
        simp only [Act.put, List.setIfInBounds_toArray, List.set_cons_succ, List.set_cons_zero]
        -- 11: slot 7 := Op.assign t22
        refine Rg.Chain.take 10 rfl rfl (by decide) (Rg.only 11 10 (by decide)) (by decide) (fun w => by go_simp) ?_
        simp only [Act.put, List.setIfInBounds_toArray, List.set_cons_succ, List.set_cons_zero]
        exact Rg.Chain.nil
      case hown => rintro j k ⟨_, h⟩; exact (hrow.lt k h).2
      case hdis => rintro i j k ⟨rfl, _⟩ ⟨rfl, _⟩; rfl
      case hend =>
        intro vs F w2 hE
        have hrow2 := Rg.end_row (B := w.heap.size) hE (Rg.kept 11 (by decide)) rfl hz hown
        have hb2 := Rg.step_from hE.step hz hown
        clear hE hown
        rw [← recCells_append, show acc.length + 1 = (acc ++ [(⟨t, i, rest.take n.toNat, padN n⟩ : Rec)]).length from by simp] at hrow2
        simp only [Rg.finalAct, Rg.slot_val, Rg.slot_any, Act.put, List.setIfInBounds_toArray, List.set_cons_succ, List.set_cons_zero]
        generalize vs 11 = v11 at hrow2 ⊢
        have W2 := hW.trans hb2
        by_cases h0 : n = 0
        · rw [split_last t i n rest acc HN.out h0] at hsp
          have q0 : (n == 0) = true := by simpa using h0
          go_wp2_with fail
          go_ret
          rw [hsp]
          exact ⟨v11, rfl, hrow2, W2⟩
        · rw [split_more t i n rest acc HN.out h0] at hsp
          have q0 : (n == 0) = false := by simpa using h0
          go_wp2_with fail
          go_roundw
          case rel => exact ⟨acc ++ [⟨t, i, rest.take n.toNat, padN n⟩], rest.drop n.toNat, rfl, hsp, by simp; omega, hrow2, W2⟩
          case measure => simp [textLen, bs_size]; omega
end Go.Proofs.Ytihfibelklhkbaa
