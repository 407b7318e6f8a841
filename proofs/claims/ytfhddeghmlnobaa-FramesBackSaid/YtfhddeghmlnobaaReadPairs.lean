/- What the reference's ReadPairs computes at the bytes of pairs: the pairs; SamePairs at two rows of the same pairs. Conditions: at most 200 pairs of at most 100000 bytes each. -/
import Derived.Test.YtfhddeghmlnobaaLengths
import Derived.Test.YtfhddeghmlnobaaOpenP
import Derived.Test.YtfhddeghmlnobaaBuild
import Derived.BigQuiet
namespace Go.Proofs.Ytfhddeghmlnobaa
open Go.RowKit

theorem info_pair : (Try.prog.info? 25).map (fun i => (i.zero, i.size, i.bytes)) = some (some (.agg #[.string (bs []), .string (bs [])]), 2, 32) := by kernel_rfl
theorem inf_pair : ∃ i, Try.prog.info? 25 = some i ∧ i.zero = some (.agg #[.string (bs []), .string (bs [])]) ∧ i.size = 2 ∧ i.bytes = 32 := by
  obtain ⟨i, hi, h⟩ := Option.map_eq_some_iff.1 info_pair
  simp only [Prod.mk.injEq] at h
  exact ⟨i, hi, h.1, h.2.1, h.2.2⟩
theorem row_pair (w : World) (x y : Bs) : Rg.Row 25 2 1 (pairCells (x, y)) (.slice (some ⟨w.heap.size, 0, none⟩) 1 1) (fun k => k = w.heap.size) (w.alloc (.cells #[.string (bs x), .string (bs y)] 25)) :=
  Rg.row_new w 25 2 1 #[.string (bs x), .string (bs y)] rfl (by simp [maxLen])
theorem pair_one (p : Bs × Bs) : ∀ y ∈ pairCells p, y.oneCell' = true := by
  intro y hy
  simp [pairCells] at hy
  rcases hy with rfl | rfl <;> rfl
theorem pairB_drop (l : List (Bs × Bs)) (k : Nat) (h : k < l.length) : pairB (l.drop k) = lenB l[k].1.length ++ (lenB l[k].2.length ++ (l[k].1 ++ (l[k].2 ++ pairB (l.drop (k + 1))))) := by
  rw [List.drop_eq_getElem_cons h]
  unfold pairB
  rw [List.flatMap_cons]
  simp only [List.append_assoc]
theorem pairs_take (l : List (Bs × Bs)) (k : Nat) (h : k < l.length) : (l.take (k + 1)).flatMap pairCells = (l.take k).flatMap pairCells ++ pairCells (l[k].1, l[k].2) := by
  rw [List.take_succ_eq_append_getElem h, List.flatMap_append]
  simp
theorem own_slice {B size : Nat} {e : TypeId} {n : Nat} {xs : List Value} {v : Value} {w : World} (h : w.ownsRow B e size v n xs) : ∃ a cap, v = .slice a n cap := by
  rcases h.2 with ⟨rfl, rfl⟩ | ⟨g, cap, cur, rfl, _⟩
  · exact ⟨_, _, rfl⟩
  · exact ⟨_, _, rfl⟩
theorem lenB_pos (n : Int) : 0 < (lenB n).length := by unfold lenB; split <;> simp

set_option maxRecDepth 100000 in
set_option maxHeartbeats 4000000 in
theorem rreadpairs_any (l : List (Bs × Bs)) (w : World) (hn : l.length < 200) (hF : ∀ p ∈ l, p.1.length ≤ 100000 ∧ p.2.length ≤ 100000) :
    Calls Try.prog 22 #[.string (bs (pairB l))] w fun e w' => ∃ v, e = .returned (.tuple #[v, .int .i64 0]) ∧ w'.ownsRow w.heap.size 25 2 v l.length (l.flatMap pairCells) ∧ Below w.heap.size w w' := by
  go_enter Try.func22, Try.ntmps22
  go_wp2_with fail
  go_loopw [4, 0] (fun o r wr => ∃ k : Nat, k ≤ l.length ∧ r = .string (bs (pairB (l.drop k))) ∧ wr.ownsRow w.heap.size 25 2 o k ((l.take k).flatMap pairCells) ∧ Below w.heap.size w wr) (fun _ r _ => textLen r)
  case atStart => exact ⟨0, Nat.zero_le _, rfl, ⟨rfl, .inl ⟨rfl, rfl⟩⟩, Below.refl _ _⟩
  case round =>
    obtain ⟨k, hk, rfl, hrow, hW⟩ := hrel
    by_cases hlt : k < l.length
    · have hp := hF _ (List.getElem_mem hlt)
      have hd := pairB_drop l k hlt
      have ht := pairs_take l k hlt
      generalize l[k].1 = x at *
      generalize l[k].2 = y at *
      generalize hz0 : pairB (l.drop (k + 1)) = z at *
      have HZ := Lib.hid hz0
      clear hz0
      obtain ⟨ho1, hn1, ht1⟩ := lenB_read x.length (lenB y.length ++ (x ++ (y ++ z))) (by omega) (by omega)
      obtain ⟨ho2, hn2, ht2⟩ := lenB_read y.length (x ++ (y ++ z)) (by omega) (by omega)
      have hL1 := fun w => rlength_ok _ w ho1
      have hL2 := fun w => rlength_ok _ w ho2
      rw [hn1, ht1] at hL1
      rw [hn2, ht2] at hL2
      rw [← hd] at hL1
      have hlen : (pairB (l.drop k)).length = (lenB x.length).length + ((lenB y.length).length + (x.length + (y.length + z.length))) := by rw [hd]; simp
      have p1 := lenB_pos x.length
      have hc : (x ++ (y ++ z)).length = x.length + y.length + z.length := by simp; omega
      have hc1 : (x ++ (y ++ z)).take (x.length : Int).toNat = x := by simp
      have hc2 : ((x ++ (y ++ z)).take ((x.length : Int) + (y.length : Int)).toNat).drop (x.length : Int).toNat = y := by
        rw [show ((x.length : Int) + (y.length : Int)).toNat = x.length + y.length by omega, Int.toNat_natCast, List.drop_take]; simp
      have hc3 : (x ++ (y ++ z)).drop ((x.length : Int) + (y.length : Int)).toNat = z := by
        rw [show ((x.length : Int) + (y.length : Int)).toNat = (x ++ y).length by rw [List.length_append]; omega, ← List.append_assoc]; simp
      clear ho1 hn1 ht1 ho2 hn2 ht2 hd
      generalize pairB (l.drop k) = s at *
      generalize lenB y.length ++ (x ++ (y ++ z)) = s1 at *
      generalize x ++ (y ++ z) = s2 at *
      have HL1 := Lib.hid hL1
      have HL2 := Lib.hid hL2
      have HC1 := Lib.hid hc1
      have HC2 := Lib.hid hc2
      have HC3 := Lib.hid hc3
      have HT := Lib.hid ht
      clear hL1 hL2 hc1 hc2 hc3 ht
      obtain ⟨a, cap, rfl⟩ := own_slice hrow
      have q2 : ((k : Int) == 200) = false := by simp; omega
      have hx0 : (0 : Int) ≤ x.length := by omega
      have hy0 : (0 : Int) ≤ y.length := by omega
      have hxl : (x.length : Int) ≤ s2.length := by omega
      have hxy : (x.length : Int) + y.length ≤ s2.length := by omega
      have hxy0 : (0 : Int) ≤ (x.length : Int) + y.length := by omega
      have hxm : (x.length : Int) ≤ (x.length : Int) + y.length := by omega
      have hx9 : (x.length : Int) ≤ 100000 := by omega
      have hy9 : (y.length : Int) ≤ 100000 := by omega
      have hs0 : 0 < s.length := by omega
      have HL := Lib.hid hlen
      have HP := Lib.hid p1
      clear hlen hc hp p1
      generalize (x.length : Int) = N at *
      generalize (y.length : Int) = M at *
      have q3 : decide ((s2.length : Int) < N + M) = false := by simp; omega
      go_wp2_with fail
      refine (HL1.out _).mono ?_
      rintro e w1 ⟨rfl, hb⟩
      have W1 := below_later hW hb
      replace hrow := own_kept hrow hb
      clear hb hW
      go_wp2_with fail
      refine (HL2.out _).mono ?_
      rintro e w2 ⟨rfl, hb⟩
      have W2 := below_later W1 hb
      replace hrow := own_kept hrow hb
      clear hb W1
      go_wp2_with fail
      generalize Value.slice a k cap = u4 at *
      have hz := W2.size
      have hown : ∀ (j : Nat) (k : Nat), (j = 0 ∧ u4.ownBlock = some k) → w.heap.size ≤ k := fun j k h => (hrow.lt k h.2).1
      refine Rg.region1 62 [.any (Rg.Row 25 2 k ((l.take k).flatMap pairCells)), .val ?_, .val ?_, .val ?_, .val ?_, .val ?_, .val ?_, .val ?_, .val ?_, .val ?_, .val ?_, .any (Rg.Row 25 2 1 (pairCells (s2.take N.toNat, (s2.take (N + M).toNat).drop N.toNat))), .any (Rg.Row 25 2 (k + 1) ((l.take k).flatMap pairCells ++ pairCells (s2.take N.toNat, (s2.take (N + M).toNat).drop N.toNat))), .any (Rg.Row 25 2 (k + 1) ((l.take k).flatMap pairCells ++ pairCells (s2.take N.toNat, (s2.take (N + M).toNat).drop N.toNat)))] [[], [], [], [], [], [], [], [], [], [], [], [], [0], [12]] (fun j k => j = 0 ∧ u4.ownBlock = some k) (by kernel_rfl) (by decide +kernel) (by simp) rfl (by simp) ?hstab ?hown ?hdis ?hchain ?hend
      case hstab => exact Rg.stable_row (Rg.stable_val (Rg.stable_val (Rg.stable_val (Rg.stable_val (Rg.stable_val (Rg.stable_val (Rg.stable_val (Rg.stable_val (Rg.stable_val (Rg.stable_val (Rg.stable_row (Rg.stable_row (Rg.stable_row (Rg.stable_nil))))))))))))))
      case hchain =>
        intro vs
        -- 0: slot 43 := Op.move t4
        refine Rg.Chain.start (Rg.ownsRow_zero hrow) (fun k hk => ⟨rfl, hk⟩) rfl (fun w => by go_simp) ?_
        simp only [Act.put, List.setIfInBounds_toArray, List.set_cons_succ, List.set_cons_zero]
        -- 1: slot 44 := Op.move t9
        refine Rg.Chain.pure rfl (fun w => by go_simp; (try go_ints); with_reducible rfl) ?_
        simp only [Act.put, List.setIfInBounds_toArray, List.set_cons_succ, List.set_cons_zero]
        -- 2: slot 45 := Op.move t5
        refine Rg.Chain.pure rfl (fun w => by go_simp; (try go_ints); with_reducible rfl) ?_
        simp only [Act.put, List.setIfInBounds_toArray, List.set_cons_succ, List.set_cons_zero]
        -- 3: slot 46 := Op.slice 9 t44 none (some t45) none
        refine Rg.Chain.pure rfl (fun w => by go_simp; (try go_ints); with_reducible rfl) ?_
        simp only [Act.put, List.setIfInBounds_toArray, List.set_cons_succ, List.set_cons_zero]
        -- 4: slot 47 := Op.move t9
        refine Rg.Chain.pure rfl (fun w => by go_simp; (try go_ints); with_reducible rfl) ?_
        simp only [Act.put, List.setIfInBounds_toArray, List.set_cons_succ, List.set_cons_zero]
        -- 5: slot 48 := Op.move t5
        refine Rg.Chain.pure rfl (fun w => by go_simp; (try go_ints); with_reducible rfl) ?_
        simp only [Act.put, List.setIfInBounds_toArray, List.set_cons_succ, List.set_cons_zero]
        -- 6: slot 49 := Op.move t5
        refine Rg.Chain.pure rfl (fun w => by go_simp; (try go_ints); with_reducible rfl) ?_
        simp only [Act.put, List.setIfInBounds_toArray, List.set_cons_succ, List.set_cons_zero]
        -- 7: slot 50 := Op.move t8
        refine Rg.Chain.pure rfl (fun w => by go_simp; (try go_ints); with_reducible rfl) ?_
        simp only [Act.put, List.setIfInBounds_toArray, List.set_cons_succ, List.set_cons_zero]
        -- 8: slot 51 := Op.binOp BinOp.add 3 t49 t50 3
        refine Rg.Chain.pure rfl (fun w => by go_simp; (try go_ints); with_reducible rfl) ?_
        simp only [Act.put, List.setIfInBounds_toArray, List.set_cons_succ, List.set_cons_zero]
        -- 9: slot 52 := Op.slice 9 t47 (some t48) (some t51) none
        refine Rg.Chain.pure rfl (fun w => by go_simp; (try go_ints); with_reducible rfl) ?_
        simp only [Act.put, List.setIfInBounds_toArray, List.set_cons_succ, List.set_cons_zero]
        -- 10: slot 53 := Op.build 25 #[(0, t46), (1, t52)]
        refine Rg.Chain.pure rfl (fun w => by go_simp; (try go_ints); with_reducible rfl) ?_
        simp only [Act.put, List.setIfInBounds_toArray, List.set_cons_succ, List.set_cons_zero]
        -- 11: slot 54 := Op.buildSlice 22 1 #[(0, t53)]
        refine Rg.Chain.new ?_ ?_ rfl (fun w => ?_) (fun w => ?_) ?_
        rotate_left 2
        · go_simp; (try go_ints); (first | with_reducible rfl | (constructor <;> with_reducible rfl))
        · exact row_pair w (s2.take N.toNat) ((s2.take (N + M).toNat).drop N.toNat)
        simp only [Act.put, List.setIfInBounds_toArray, List.set_cons_succ, List.set_cons_zero]
        -- 12: slot 55 := Op.call ( builtin append, args := #[t43, t54], argTypes := #[22, 22] )
        obtain ⟨ti, hti, hzz, hsz, hby⟩ := inf_pair
        refine Rg.Chain.append 0 11 rfl 22 25 _ _ ti _ _ _ rfl rfl rfl (Try.underlying22) hti hzz hsz hby rfl (by decide) rfl rfl (by decide) (by decide) (Rg.only 12 0 (by decide)) (Rg.only 12 11 (by decide)) (by decide) (pair_one _) (by simp [maxLen]; omega) (by omega) ?_
        simp only [Act.put, List.setIfInBounds_toArray, List.set_cons_succ, List.set_cons_zero]
        -- 13: slot 4 := Op.assign t55
        refine Rg.Chain.take 12 rfl rfl (by decide) (Rg.only 13 12 (by decide)) (by decide) (fun w => by go_simp) ?_
        simp only [Act.put, List.setIfInBounds_toArray, List.set_cons_succ, List.set_cons_zero]
        exact Rg.Chain.nil
      case hown => rintro j k ⟨_, h⟩; exact (hrow.lt k h).2
      case hdis => rintro i j k ⟨rfl, _⟩ ⟨rfl, _⟩; rfl
      case hend =>
        intro vs F w3 hE
        have hrow2 := Rg.end_row (B := w.heap.size) hE (Rg.kept 13 (by decide)) rfl hz hown
        have hb2 := Rg.step_from hE.step hz hown
        clear hE hown
        rw [HC1.out, HC2.out, ← HT.out] at hrow2
        simp only [Rg.finalAct, Rg.slot_val, Rg.slot_any, Act.put, List.setIfInBounds_toArray, List.set_cons_succ, List.set_cons_zero]
        generalize vs 13 = v13 at hrow2 ⊢
        have W3 := W2.trans hb2
        go_wp2_with fail
        go_roundw
        case rel => exact ⟨k + 1, by omega, by rw [HC3.out, HZ.out], hrow2, W3⟩
        case measure =>
          have h1 := HL.out
          have h2 := HP.out
          have e := congrArg List.length HC3.out
          rw [List.length_drop] at e
          simp [textLen, bs_size]; omega
    · obtain rfl : k = l.length := by omega
      rw [List.take_length] at hrow
      have hz : pairB (l.drop l.length) = [] := by simp [pairB]
      rw [hz]
      go_wp2_with fail
      exact bodyPost_ret (v := .tuple #[u4, .int .i64 0]) (by simp [results, Try.results22, go_sem]) rfl ⟨_, rfl, hrow, hW⟩

set_option maxRecDepth 100000 in
set_option maxHeartbeats 4000000 in
theorem samep_some (b off cap b2 off2 cap2 : Nat) (l : List (Bs × Bs)) (w : World) (hn : l.length ≤ 1000000000) 
    (hC : ∀ k (h : k < l.length), w.cell? ⟨b, off + k * 2, none⟩ = some (.string (bs l[k].1)) ∧ w.cell? ⟨b, off + k * 2 + 1, none⟩ = some (.string (bs l[k].2)))
    (hD : ∀ k (h : k < l.length), w.cell? ⟨b2, off2 + k * 2, none⟩ = some (.string (bs l[k].1)) ∧ w.cell? ⟨b2, off2 + k * 2 + 1, none⟩ = some (.string (bs l[k].2))) :
    Calls Try.prog 23 #[.slice (some ⟨b, off, none⟩) l.length cap, .slice (some ⟨b2, off2, none⟩) l.length cap2] w fun e w' => e = .returned (.bool true) ∧ Below w.heap.size w w' := by
  have hcell : ∀ wr, Below w.heap.size w wr → ∀ (g o : Nat) v, w.cell? ⟨g, o, none⟩ = some v → wr.cell? ⟨g, o, none⟩ = some v := by
    intro wr hbel g o v h
    have hlt : g < w.heap.size := by
      rcases Nat.lt_or_ge g w.heap.size with hlt | hge
      · exact hlt
      · simp [World.cell?, Array.getElem?_eq_none hge] at h
    rw [hbel.cell hlt]
    exact h
  have HK := Lib.hid hcell
  have HC := Lib.hid hC
  have HD := Lib.hid hD
  clear hC hD hcell
  go_enter Try.func23, Try.ntmps23
  go_wp2_with fail
  go_loopw [5] (fun i wr => ∃ k : Nat, k ≤ l.length ∧ i = .int .i64 k ∧ Below w.heap.size w wr) (fun i _ => l.length - (intOf i).toNat)
  case atStart => exact ⟨0, Nat.zero_le _, rfl, Below.refl _ _⟩
  case round =>
    obtain ⟨k, hk, rfl, hW⟩ := hrel
    by_cases hlt : k < l.length
    · obtain ⟨c0, c1⟩ := HC.out k hlt
      obtain ⟨d0, d1⟩ := HD.out k hlt
      replace c0 := HK.out wr hW _ _ _ c0
      replace c1 := HK.out wr hW _ _ _ c1
      replace d0 := HK.out wr hW _ _ _ d0
      replace d1 := HK.out wr hW _ _ _ d1
      generalize l[k].1 = x at *
      generalize l[k].2 = y at *
      go_wp2_with fail
      go_quiet (fail)
      go_wp2_with fail
      go_roundw
      case rel => exact ⟨k + 1, by omega, by go_num, below_drewN hW _⟩
      case measure => simp [intOf]; omega
    · obtain rfl : k = l.length := by omega
      go_wp2_with fail
      go_ret
      exact ⟨rfl, hW⟩
theorem samep_nil (a a2 : Option Addr) (cap cap2 : Nat) (w : World) :
    Calls Try.prog 23 #[.slice a 0 cap, .slice a2 0 cap2] w fun e w' => e = .returned (.bool true) ∧ Below w.heap.size w w' := by
  go_enter Try.func23, Try.ntmps23
  go_wp2_with fail
  refine wp_loop_rounds 1 ?_
  rw [rounds_succ]
  go_wp2_with fail
  go_ret
  exact ⟨rfl, Below.refl _ _⟩
/-- The reference's SamePairs at two rows of the same pairs. -/
theorem samep_any (l : List (Bs × Bs)) (v v2 : Value) (w : World) (hn : l.length ≤ 1000000000) (hv : Reads w v 2 l.length (l.flatMap pairCells)) (hv2 : Reads w v2 2 l.length (l.flatMap pairCells)) :
    Calls Try.prog 23 #[v, v2] w fun e w' => e = .returned (.bool true) ∧ Below w.heap.size w w' := by
  obtain ⟨a, cap, rfl, h⟩ := hv.opened (fun _ _ => rfl) (by decide)
  obtain ⟨a2, cap2, rfl, h2⟩ := hv2.opened (fun _ _ => rfl) (by decide)
  by_cases h0 : 0 < l.length
  · obtain ⟨b, off, rfl, _, hc⟩ := h h0
    obtain ⟨b2, off2, rfl, _, hd⟩ := h2 h0
    exact samep_some b off cap b2 off2 cap2 l w hn (fun k h => ⟨hc k h 0 _ rfl, hc k h 1 _ rfl⟩) (fun k h => ⟨hd k h 0 _ rfl, hd k h 1 _ rfl⟩)
  · have : l = [] := List.eq_nil_of_length_eq_zero (by omega)
    subst this
    exact samep_nil a a2 cap cap2 w
end Go.Proofs.Ytfhddeghmlnobaa
