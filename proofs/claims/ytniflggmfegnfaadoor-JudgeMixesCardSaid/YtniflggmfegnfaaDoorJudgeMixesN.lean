/- conduitlaw26.JudgeMixes answers true at every argument, where the package errors' variable holds what it was given. Condition: that. -/
import Derived.Test.YtniflggmfegnfaaDoorKnown26
import Derived.Test.YtniflggmfegnfaaDoorOpenT
namespace Go.Proofs.YtniflggmfegnfaaDoor
open Go.RowKit

set_option maxRecDepth 100000 in
set_option maxHeartbeats 8000000 in
theorem jm_none (Bd : List Bs) (v : Value) (ord : List UInt8) (v2 : Value) (w : World) (hR : Reads w v 1 Bd.length (Bd.flatMap textCells)) (hF : ∀ b ∈ Bd, b.length ≤ maxLen) (hRo : Reads w v2 1 ord.length (ord.flatMap fun b => [bv b])) (hg : w.cell? ⟨0, 0, none⟩ = some errTypeV) (ho : ord.length = 0) :
    Calls Tryd.prog 3 #[v, v2] w fun e w' => e = .returned (.bool true) ∧ Below w.heap.size w w' := by
  have hg0 : 0 < w.heap.size := World.block_lt_of_cell? w _ hg
  have hg' : ∀ w', Below w.heap.size w w' → w'.cell? ⟨0, 0, none⟩ = some errTypeV := fun w' hb => by rw [hb.cell hg0]; exact hg
  have HG := Lib.hid hg'
  have HO := Lib.hid ho
  clear hg hg' ho
  have hlm := hR.2.1
  have hla := hRo.2.1
  unfold maxLen at hlm hla
  obtain ⟨a, cap, rfl, h⟩ := hR.opened (fun _ _ => rfl) (by decide)
  obtain ⟨a2, cap2, rfl, h2⟩ := hRo.opened (fun _ _ => rfl) (by decide)
  have HH := Lib.hid h
  have HH2 := Lib.hid h2
  have HF := Lib.hid hF
  clear hR hRo h h2 hF
  go_enter Tryd.func3, Tryd.ntmps3
  go_wp2_with fail
  refine (known26 _ (HG.out _ (Below.refl _ _))).mono ?_
  rintro e w1 ⟨rfl, W1⟩
  by_cases h6 : 6 < Bd.length
  · have q1 : decide ((6 : Int) < (Bd.length : Int)) = true := by simp; omega
    go_wp2_with fail
    go_ret
    exact ⟨rfl, W1⟩
  have q1 : decide ((6 : Int) < (Bd.length : Int)) = false := by simp; omega
  by_cases h200 : 200 < ord.length
  · have q2 : decide ((200 : Int) < (ord.length : Int)) = true := by simp; omega
    go_wp2_with fail
    go_ret
    exact ⟨rfl, W1⟩
  have q2 : decide ((200 : Int) < (ord.length : Int)) = false := by simp; omega
  go_wp2_with fail
  clear q1 q2
  have hML := mixAll_len Bd
  have HMA := Lib.hid (mixAll_at Bd)
  obtain ⟨M, hM⟩ : ∃ M, M = mixAll Bd := ⟨_, rfl⟩
  rw [← hM] at hML HMA
  have HM := Lib.hid hM
  clear hM
  go_loopw [5, 6, 7] (fun r l i wr => ∃ k : Nat, k ≤ Bd.length ∧ i = .int .i64 k ∧ l = .int .i64 (sumL (M.take k)) ∧ sumL (M.take k) ≤ 3000 * k ∧ Below w.heap.size w wr ∧ RRow w.heap.size wr r (M.take k) ∧ ∀ b ∈ Bd.take k, b.length ≤ 700) (fun _ _ i _ => Bd.length - (intOf i).toNat)
  case atStart => exact ⟨0, Nat.zero_le _, rfl, rfl, by simp [sumL, sumF], W1, RRow.nil _ _, by simp⟩
  case round =>
    obtain ⟨k, hk, rfl, rfl, hsl, hW, hrr, hall⟩ := hrel
    by_cases hlt : k < Bd.length
    · obtain ⟨b, off, rfl, hbl, hc⟩ := HH.out (by omega)
      have c0 : w.cell? ⟨b, off + k, none⟩ = some (.string (bs Bd[k])) := by have := hc k hlt 0 _ rfl; rwa [Nat.mul_one, Nat.add_zero] at this
      rw [← hW.cell hbl] at c0
      have hz := Nat.lt_of_lt_of_le hbl hW.size
      have hfit := HF.out _ (List.getElem_mem hlt)
      unfold maxLen at hfit
      have htk : Bd.take (k + 1) = Bd.take k ++ [Bd[k]] := List.take_succ_eq_append_getElem hlt
      have hMk := HMA.out k hlt
      have hMn := take_next M k _ hMk
      have hMl := mixL_len k Bd[k]
      generalize Bd[k] = x at *
      by_cases h7 : 700 < x.length
      · have q1 : decide ((700 : Int) < (x.length : Int)) = true := by simp; omega
        clear hc htk hMk hMn hMl hall hrr
        go_wp2_with fail
        go_ret
        exact ⟨rfl, hW⟩
      have q1 : decide ((700 : Int) < (x.length : Int)) = false := by simp; omega
      replace hMl := hMl (by omega)
      have hnew : ∀ q ∈ Bd.take (k + 1), q.length ≤ 700 := by
        intro q hq
        rw [htk] at hq
        rcases List.mem_append.1 hq with h | h
        · exact hall q h
        · simp at h; subst h; omega
      have hsn : sumL (M.take (k + 1)) = sumL (M.take k) + (mixL k x).length := by rw [hMn]; exact sumF_snoc _ _ _
      obtain ⟨us, u1, u2, u3⟩ := hrr
      have htl : (M.take k).length = k := by rw [List.length_take]; omega
      rw [htl] at u1 u2
      have HBld : ∀ (wx : World) (F : Nat → Prop) (v8 : Value), Rg.Row 29 2 1 (pairCells ([110], x)) v8 F wx → Calls Tryd.prog 5 #[.int .i64 ((k : Int) + 1), v8, .string (bs x)] wx fun e w' => ∃ v, e = .returned v ∧ Rg.Row 33 4 (mixL k x).length (recCells (mixL k x)) v (fun j => wx.heap.size ≤ j ∧ j < w'.heap.size) w' ∧ Below wx.heap.size wx w' := by
        intro wx F v8 h8
        have hpl := mixP_le x
        refine (rbuild_any ((k : Int) + 1) [([110], x)] x v8 wx (fun w' hb => rpairs_any [([110], x)] _ w' (own_reads (own_kept h8.1 hb)) (by simp) (by intro p hp; simp at hp; subst hp; exact ⟨by simp, by show x.length ≤ 100000; omega⟩)) (by omega) (by omega)).mono ?_
        rintro e w' ⟨u, he, ho, hb⟩
        exact ⟨u, he, ⟨Rg.ownsRow_zero ho, fun j hj => ⟨(ho.lt j hj).1, (ho.lt j hj).2⟩⟩, hb⟩
      have HBLD := Lib.hid HBld
      have HRest := Lib.hid (show MixInv Bd [] M from HM.out ▸ mix_start Bd)
      have HU3 := Lib.hid u3
      have HMN := Lib.hid hMn
      have HSN := Lib.hid hsn
      have HNW := Lib.hid hnew
      have HMK := Lib.hid hMk
      clear hc htk hMk hMn hall HBld u3 hsn hnew
      generalize mixL k x = L at *
      generalize sumL (M.take k) = sl at *
      obtain ⟨ra, rc, rfl⟩ := own_slice u2
      have hS : ∀ wx, Rg.Step (fun j => ∃ i, (fun i j => i = 0 ∧ (Value.slice ra k rc).ownBlock = some j) i j) wr wx → wx.cell? ⟨b, off + k, none⟩ = some (.string (bs x)) ∧ b < wx.heap.size := by
        intro wx hs
        have e : wx.cell? ⟨b, off + k, none⟩ = wr.cell? ⟨b, off + k, none⟩ := World.cell?_of_block (hs.block b hz (by
          rintro ⟨i, _, hj⟩
          have := (u2.lt b hj).1
          omega))
        rw [e]
        exact ⟨c0, Nat.lt_of_lt_of_le hz hs.size⟩
      go_wp2_with fail
      refine Rg.region1 228 [.any (Rg.Row 26 1 k us), .val ?_, .val ?_, .val ?_, .val ?_, .val ?_, .val ?_, .val ?_, .any (Rg.Row 29 2 1 (pairCells ([110], x))), .val ?_, .val ?_, .val ?_, .val ?_, .any (Rg.Row 33 4 L.length (recCells L)), .any (Rg.NewRow 1 [] L), .any (Rg.NewRow (k + 1) us L), .any (Rg.NewRow (k + 1) us L)] [[], [], [], [], [], [], [], [], [], [], [], [], [], [], [13], [0, 14], [15]] (fun i j => i = 0 ∧ (Value.slice ra k rc).ownBlock = some j) (by kernel_rfl) (by decide +kernel) (by simp) rfl (by simp) ?hstab ?hown ?hdis ?hchain ?hend
      case hstab => exact Rg.stable_row (Rg.stable_val (Rg.stable_val (Rg.stable_val (Rg.stable_val (Rg.stable_val (Rg.stable_val (Rg.stable_val (Rg.stable_row (Rg.stable_val (Rg.stable_val (Rg.stable_val (Rg.stable_val (Rg.stable_row (Rg.stable_newRow (Rg.stable_newRow (Rg.stable_newRow (Rg.stable_nil)))))))))))))))))
      case hchain =>
        intro vs
        -- 0: slot 38 := Op.move t5
        refine Rg.Chain.start (Rg.ownsRow_zero u2) (fun j hj => ⟨rfl, hj⟩) rfl (fun w => by go_simp) ?_
        simp only [Act.put, List.setIfInBounds_toArray, List.set_cons_succ, List.set_cons_zero]
        -- 1: slot 39 := Op.move t7
        refine Rg.Chain.pure rfl (fun w => by go_simp; (try go_ints); with_reducible rfl) ?_
        simp only [Act.put, List.setIfInBounds_toArray, List.set_cons_succ, List.set_cons_zero]
        -- 2: slot 40 := Op.binOp BinOp.add 3 t39 (const (1:i64)) 3
        refine Rg.Chain.pure rfl (fun w => by go_simp; (try go_ints); with_reducible rfl) ?_
        simp only [Act.put, List.setIfInBounds_toArray, List.set_cons_succ, List.set_cons_zero]
        -- 3: slot 41 := Op.move t0
        refine Rg.Chain.pure rfl (fun w => by go_simp; (try go_ints); with_reducible rfl) ?_
        simp only [Act.put, List.setIfInBounds_toArray, List.set_cons_succ, List.set_cons_zero]
        -- 4: slot 42 := Op.move t7
        refine Rg.Chain.pure rfl (fun w => by go_simp; (try go_ints); with_reducible rfl) ?_
        simp only [Act.put, List.setIfInBounds_toArray, List.set_cons_succ, List.set_cons_zero]
        -- 5: slot 43 := Op.indexAddr 22 t41 t42
        refine Rg.Chain.pure rfl (fun w => by go_simp; (try go_ints); with_reducible rfl) ?_
        simp only [Act.put, List.setIfInBounds_toArray, List.set_cons_succ, List.set_cons_zero]
        -- 6: slot 44 := Op.load 9 t43
        refine Rg.Chain.read rfl (fun wx hs => by obtain ⟨q0, q1⟩ := hS wx hs; go_simp; with_reducible rfl) ?_
        simp only [Act.put, List.setIfInBounds_toArray, List.set_cons_succ, List.set_cons_zero]
        -- 7: slot 45 := Op.build 29 #[(0, const (Value.string ( data := #[110] ))), (1, t44)]
        refine Rg.Chain.pure rfl (fun w => by go_simp; (try go_ints); with_reducible rfl) ?_
        simp only [Act.put, List.setIfInBounds_toArray, List.set_cons_succ, List.set_cons_zero]
        -- 8: slot 46 := Op.buildSlice 30 1 #[(0, t45)]
        refine Rg.Chain.new ?_ ?_ rfl (fun w => ?_) (fun w => ?_) ?_
        rotate_left 2
        · go_simp; (try go_ints); (first | with_reducible rfl | (constructor <;> with_reducible rfl))
        · exact row_pair w [110] x
        simp only [Act.put, List.setIfInBounds_toArray, List.set_cons_succ, List.set_cons_zero]
        -- 9: slot 47 := Op.move t0
        refine Rg.Chain.pure rfl (fun w => by go_simp; (try go_ints); with_reducible rfl) ?_
        simp only [Act.put, List.setIfInBounds_toArray, List.set_cons_succ, List.set_cons_zero]
        -- 10: slot 48 := Op.move t7
        refine Rg.Chain.pure rfl (fun w => by go_simp; (try go_ints); with_reducible rfl) ?_
        simp only [Act.put, List.setIfInBounds_toArray, List.set_cons_succ, List.set_cons_zero]
        -- 11: slot 49 := Op.indexAddr 22 t47 t48
        refine Rg.Chain.pure rfl (fun w => by go_simp; (try go_ints); with_reducible rfl) ?_
        simp only [Act.put, List.setIfInBounds_toArray, List.set_cons_succ, List.set_cons_zero]
        -- 12: slot 50 := Op.load 9 t49
        refine Rg.Chain.read rfl (fun wx hs => by obtain ⟨q0, q1⟩ := hS wx hs; go_simp; with_reducible rfl) ?_
        simp only [Act.put, List.setIfInBounds_toArray, List.set_cons_succ, List.set_cons_zero]
        -- 13: slot 51 := Op.call ( value (Operand.func 5), args := #[t40, t46, t50], argTypes := #[3, 30, 9] )
        refine Rg.Chain.callReads 8 rfl (by decide) (Rg.only 13 8 (by decide)) ?_ ?_ rfl (fun w => ?_) (fun wx F hs h8 => ?_) ?_; rotate_left 2; (go_simp; (try go_ints); constructor <;> with_reducible rfl); (exact HBLD.out wx F _ h8)
        simp only [Act.put, List.setIfInBounds_toArray, List.set_cons_succ, List.set_cons_zero]
        -- 14: slot 52 := Op.buildSlice 25 1 #[(0, t51)]
        refine Rg.Chain.wrapRow 13 rfl (by decide) (Rg.only 14 13 (by decide)) (by decide) rfl (fun w A n c e => by go_simp) ?_
        simp only [Act.put, List.setIfInBounds_toArray, List.set_cons_succ, List.set_cons_zero]
        -- 15: slot 53 := Op.call ( builtin append, args := #[t38, t52], argTypes := #[25, 25] )
        refine Rg.Chain.appendWrap 0 14 rfl _ _ rfl rfl rfl rfl rfl rfl (by decide) (by decide) (Rg.only 15 0 (by decide)) (Rg.only 15 14 (by decide)) (by decide) (by decide) (by decide) (by omega) ?_
        simp only [Act.put, List.setIfInBounds_toArray, List.set_cons_succ, List.set_cons_zero]
        -- 16: slot 5 := Op.assign t53
        refine Rg.Chain.take 15 rfl rfl (by decide) (Rg.only 16 15 (by decide)) (by decide) (fun w => by go_simp) ?_
        simp only [Act.put, List.setIfInBounds_toArray, List.set_cons_succ, List.set_cons_zero]
        exact Rg.Chain.nil
      case hown => rintro j i ⟨_, hj⟩; exact (u2.lt i hj).2
      case hdis => rintro i j k ⟨rfl, _⟩ ⟨rfl, _⟩; rfl
      case hend =>
        intro vs F w7 hE
        obtain ⟨u, hrow, hul⟩ := hE.fact 16 _ (Rg.kept 16 (by decide)) rfl
        have hrow' : w7.ownsRow w.heap.size 26 1 (vs 16) (k + 1) (us ++ [u]) := own_up hrow.1 (fun j hj => by
          have hk := hE.own 16 _ j (Rg.kept 16 (by decide)) rfl (hrow.2 j hj)
          rcases Nat.lt_or_ge j w.heap.size with hl | hge
          · exact (hk.2 ⟨by have := hW.size; omega, fun i hi => by have := (u2.lt j hi.2).1; omega⟩).elim
          · exact hge)
        have U7 : Below w.heap.size w w7 := hW.trans (Rg.step_from hE.step hW.size (fun j i hi => (u2.lt i hi.2).1))
        have hkp : Keeps wr w7 := step_keeps hE.step (T := 26) (by decide) (fun j i hi => by obtain ⟨cur, hc⟩ := own_obj u2 hi.2; exact ⟨cur, _, hc⟩)
        have hRR : RR w7 u L := RR.of_own hul.1
        have hnext : RRow w.heap.size w7 (vs 16) (M.take (k + 1)) := by
          rw [HMN.out]
          refine ⟨us ++ [u], by simp; omega, by rw [List.length_append, htl]; exact hrow', fun j u' X hj hX => ?_⟩
          by_cases e : j < k
          · rw [List.getElem?_append_left (by omega)] at hj hX
            exact (HU3.out j u' X hj hX).keeps hkp
          · have hjl := (List.getElem?_eq_some_iff.1 hj).1
            rw [List.length_append, List.length_singleton] at hjl
            rw [List.getElem?_append_right (by omega)] at hj hX
            rw [show j - us.length = 0 by omega] at hj
            rw [show j - (M.take k).length = 0 by omega] at hX
            simp at hj hX
            subst hj
            subst hX
            exact hRR
        obtain ⟨g, gc, hv16, hgB, hgl, hgc⟩ := own_open hrow' (by omega)
        have d0 := hgc k u (by rw [List.getElem?_append_right (by omega), show k - us.length = 0 by omega]; rfl)
        obtain ⟨ua, uc, hu⟩ := RR.slice hRR
        rw [hu] at d0
        clear hE hgc hrow hrow' hkp hul hRR hS HU3
        simp only [Rg.finalAct, Rg.slot_val, Rg.slot_any, Act.put, List.setIfInBounds_toArray, List.set_cons_succ, List.set_cons_zero]
        generalize vs 16 = r16 at *
        generalize vs 0 = y0
        generalize vs 8 = y8
        generalize vs 13 = y13
        generalize vs 14 = y14
        generalize vs 15 = y15
        subst hv16
        have HNext := Lib.hid hnext
        clear hnext hW
        go_wp2_with fail
        go_roundw
        case rel => exact ⟨k + 1, by omega, by go_num, by rw [HSN.out]; simp only [Value.int.injEq, true_and]; omega, by rw [HSN.out]; omega, U7, HNext.out, HNW.out⟩
        case measure => simp [intOf]; omega
    · obtain rfl : k = Bd.length := by omega
      have hMt : M.take Bd.length = M := List.take_of_length_le (by omega)
      rw [hMt] at hrr hsl
      rw [hMt]
      rw [List.take_length] at hall
      have hI0 : MixInv Bd [] M := HM.out ▸ mix_start Bd
      have hMB : sumB M ≤ 180000 := HM.out ▸ mixAll_bytes Bd (by omega) hall
      have HMB := Lib.hid hMB
      have HAll := Lib.hid hall
      obtain ⟨us, u1, u2, u3⟩ := hrr
      obtain ⟨ra, rc, rfl⟩ := own_slice u2
      have hrr : RRow w.heap.size wr (.slice ra M.length rc) M := ⟨us, u1, u2, u3⟩
      rw [hML] at hrr
      rw [hML]
      have HI0 := Lib.hid hI0
      have HRR := Lib.hid hrr
      have hsl2 : sumL M ≤ 18000 := by omega
      clear hall hMB hI0 hrr u1 u2 u3 hMt hsl
      go_wp2_with fail
      simp only [show ({ data := #[] } : ByteArray) = bs [] from rfl]
      go_loopw [6, 8, 9] (fun l s m wr => ∃ (E : List Rec) (R : List (List Rec)) (c : Nat), l = .int .i64 (sumL R) ∧ s = .string (bs (allBytes E)) ∧ m = .int .i64 c ∧ c + sumL R = sumL M ∧ MixInv Bd E R ∧ RRow w.heap.size wr (.slice ra Bd.length rc) R ∧ Below w.heap.size w wr) (fun l _ _ _ => (intOf l).toNat)
      case atStart => exact ⟨[], M, 0, rfl, rfl, rfl, by omega, HI0.out, HRR.out, hW⟩
      case round =>
        obtain ⟨E, R, c, rfl, rfl, rfl, hcs, hmi, hrr, hW⟩ := hrel
        have hRl := hmi.len
        have hc0 : sumL R ≤ 18000 := by omega
        by_cases h0 : 0 < sumL R
        · have q3 : decide ((0 : Int) < (sumL R : Int)) = true := by simp; omega
          obtain ⟨j0, hj0, hj1⟩ := sumL_pos R h0
          have hn0 : (Bd.length : Int) ≠ 0 := by omega
          have hcc : c ≤ 18000 := by omega
          have ho := HO.out
          obtain ⟨kk, hkk, hmod⟩ : ∃ kk : Nat, kk < Bd.length ∧ (c : Int) % (Bd.length : Int) = (kk : Int) := by
            refine ⟨((c : Int) % (Bd.length : Int)).toNat, ?_, ?_⟩
            · have := Int.emod_lt_of_pos (c : Int) (show (0 : Int) < (Bd.length : Int) by omega); have := Int.emod_nonneg (c : Int) hn0; omega
            · have := Int.emod_nonneg (c : Int) hn0; omega
          have q5 : decide ((0 : Int) < (ord.length : Int)) = false := decide_eq_false (by omega)
          all_goals
            have hkr : kk < R.length := by omega
            obtain ⟨g, gcap, cur, hv, hgc1, hgB, hob, u, hcu, hru, hset⟩ := hrr.at hkr
            obtain ⟨rfl, hvl, rfl⟩ : ra = some ⟨g, 0, none⟩ ∧ Bd.length = R.length ∧ rc = gcap := by simpa using hv
            clear hv hvl
            have HCS := Lib.hid hcs
            have HRL := Lib.hid hRl
            have HML := Lib.hid hML
            by_cases hne : R[kk]'hkr = []
            · obtain ⟨ua, uc, hu⟩ := RR.slice hru
              rw [hne] at hu
              subst hu
              have r0 : wr.cell? ⟨g, kk, none⟩ = some (.slice ua 0 uc) := by rw [box_cells hob]; exact hcu
              have hgl := box_lt hob
              have HRW := Lib.hid hrr
              have HMI := Lib.hid hmi
              have HJ1 := Lib.hid hj1
              clear hcs hRl hML hset hru hrr hmi hne hj1
              go_wp2_with fail
              clear r0 hcu hob hgl hgB hmod q5
              go_loopw [6, 8, 11] (fun l s j wq => ∃ jj : Nat, jj ≤ Bd.length ∧ l = .int .i64 (sumL R) ∧ s = .string (bs (allBytes E)) ∧ j = .int .i64 jj ∧ wr = wq ∧ ∀ i, i < jj → R[i]? = some []) (fun _ _ j _ => Bd.length - (intOf j).toNat)
              case atStart => exact ⟨0, Nat.zero_le _, rfl, rfl, rfl, rfl, fun i hi => absurd hi (Nat.not_lt_zero _)⟩
              case round =>
                obtain ⟨jj, hjj, rfl, rfl, rfl, rfl, hnil⟩ := hrel
                have hcs := HCS.out
                have hRl := HRL.out
                have hML := HML.out
                have hmi := HMI.out
                by_cases hlt : jj < Bd.length
                · have hkr : jj < R.length := by omega
                  obtain ⟨g', gcap', cur, hv, hgc1', hgB, hob, u, hcu, hru, hset⟩ := HRW.out.at hkr
                  obtain ⟨rfl, hvl, rfl⟩ : g = g' ∧ Bd.length = R.length ∧ rc = gcap' := by simpa using hv
                  clear hv hvl
                  by_cases hne : R[jj]'hkr = []
                  · obtain ⟨ua, uc, hu⟩ := RR.slice hru
                    rw [hne] at hu
                    subst hu
                    have r0 : wr.cell? ⟨g, jj, none⟩ = some (.slice ua 0 uc) := by rw [box_cells hob]; exact hcu
                    have hgl := box_lt hob
                    have HNX := Lib.hid (show ∀ i, i < jj + 1 → R[i]? = some [] from fun i hi => by
                      by_cases e : i = jj
                      · subst e; rw [List.getElem?_eq_getElem hkr, hne]
                      · exact hnil i (by omega))
                    clear hcs hRl hML hset hru hmi hne hnil
                    go_wp2_with fail
                    go_roundw
                    case rel => exact ⟨jj + 1, by omega, by simp, by simp, by go_num, by simp, HNX.out⟩
                    case measure => simp [intOf]; omega
                  · clear hnil
                    obtain ⟨x, X, hx⟩ : ∃ x X, R[jj]'hkr = x :: X := by
                      cases h : R[jj]'hkr with
                      | nil => exact absurd h hne
                      | cons x X => exact ⟨x, X, rfl⟩
                    rw [hx] at hru
                    obtain ⟨g2, off, cap3, cur2, rfl, e1, e2, hb2, c0, c1, c2, c3, htail⟩ := hru.first
                    have hgl := box_lt hob
                    have hgl2 := box_lt hb2
                    have hg2 : g ≠ g2 := cells_ne hob hb2 (by decide)
                    have r0 : wr.cell? ⟨g, jj, none⟩ = some (.slice (some ⟨g2, off, none⟩) (X.length + 1) cap3) := by rw [box_cells hob]; exact hcu
                    have q6 : decide ((0 : Int) < ((X.length + 1 : Nat) : Int)) = true := decide_eq_true (by omega)
                    have hxI := mix_rest_is hmi (by omega) jj hkr x (by rw [hx]; simp)
                    have hml := mix_left jj hkr x X hx
                    have hmn := mix_step hmi jj hkr x X hx
                    have hXl : X.length + 1 ≤ 18000 := by
                      have h1 := sumF_set List.length R jj hkr ([] : List Rec)
                      rw [hx] at h1
                      simp at h1
                      unfold sumL at hc0
                      omega
                    have hBl : (allBytes E).length + x.bytes.length ≤ 180000 := by
                      have h1 := hmn.bytes
                      rw [allBytes_append, List.length_append] at h1
                      have h2 : (allBytes [x]).length = x.bytes.length := by simp [allBytes]
                      have h3 : sumB (mixAll Bd) ≤ 180000 := by rw [← HM.out]; exact HMB.out
                      omega
                    have hEx : allBytes (E ++ [x]) = allBytes E ++ x.bytes := by rw [allBytes_append]; simp [allBytes]
                    have HBy := Lib.hid (fun w => rbytes_any x w (by have := hxI.2.2.2.2.1; omega))
                    have HMn := Lib.hid hmn
                    have HEx := Lib.hid hEx
                    have HMl := Lib.hid hml
                    have HTail := Lib.hid htail
                    have HSet := Lib.hid hset
                    have hcat : ¬ 9223372036854775807 < (allBytes E).length + x.bytes.length := by omega
                    have hS : ∀ wx, Rg.Step (fun j => ∃ i, (fun i j => i = 20 ∧ j = g) i j) wr wx → wx.cell? ⟨g2, off, none⟩ = some (.int .i64 x.t) ∧ wx.cell? ⟨g2, off + 1, none⟩ = some (.int .i64 x.id) ∧ wx.cell? ⟨g2, off + 2, none⟩ = some (.string (bs x.c)) ∧ wx.cell? ⟨g2, off + 3, none⟩ = some (.int .i64 x.p) ∧ g2 < wx.heap.size := by
                      intro wx hs
                      have hb : wx.heap[g2]? = some (.cells cur2 33 (0, 0)) := by
                        rw [hs.block g2 hgl2 (by rintro ⟨i, _, hj⟩; exact hg2 hj.symm)]
                        exact hb2
                      have q := box_cells hb
                      rw [q, q, q, q]
                      exact ⟨c0, c1, c2, c3, box_lt hb⟩
                    clear hmn hEx hml htail hset hxI hBl hx hmi
                    clear hne
                    generalize hxb : x.bytes = xb at *
                    generalize hab : allBytes E = A at *
                    obtain ⟨xt, xi, xc, xp⟩ := x
                    simp only at *
                    clear hxb hab c0 c1 c2 c3 hcs hRl hML
                    go_wp2_with fail
                    refine Rg.region1 228 [.val ?_, .val ?_, .val ?_, .val ?_, .val ?_, .val ?_, .val (.slice (some ⟨g2, off, none⟩) (X.length + 1) cap3), .val ?_, .val ?_, .val (.string (bs xb)), .val ?_, .val ?_, .val ?_, .val ?_, .val (.slice (some ⟨g2, off, none⟩) (X.length + 1) cap3), .val (.slice (if cap3 = 1 then some ⟨g2, off, none⟩ else some ⟨g2, off + 4, none⟩) X.length (cap3 - 1)), .val ?_, .val ?_, .val ?_, .val ?_, .any (Rg.Box g (.cells (cur.setIfInBounds jj (.slice (if cap3 = 1 then some ⟨g2, off, none⟩ else some ⟨g2, off + 4, none⟩) X.length (cap3 - 1))) 26 (0, 0))), .val ?_] [] (fun i j => i = 20 ∧ j = g) (by kernel_rfl) (by decide +kernel) (by simp) rfl (by simp) ?hstab ?hown ?hdis ?hchain ?hend
                    case hstab => exact Rg.stable_val (Rg.stable_val (Rg.stable_val (Rg.stable_val (Rg.stable_val (Rg.stable_val (Rg.stable_val (Rg.stable_val (Rg.stable_val (Rg.stable_val (Rg.stable_val (Rg.stable_val (Rg.stable_val (Rg.stable_val (Rg.stable_val (Rg.stable_val (Rg.stable_val (Rg.stable_val (Rg.stable_val (Rg.stable_val (Rg.stable_box (Rg.stable_val (Rg.stable_nil))))))))))))))))))))))
                    case hchain =>
                      intro vs
                      -- 0: slot 122 := Op.move t5
                      refine Rg.Chain.pure rfl (fun w => by go_simp; (try go_ints); with_reducible rfl) ?_
                      simp only [Act.put, List.setIfInBounds_toArray, List.set_cons_succ, List.set_cons_zero]
                      -- 1: slot 123 := Op.move t11
                      refine Rg.Chain.pure rfl (fun w => by go_simp; (try go_ints); with_reducible rfl) ?_
                      simp only [Act.put, List.setIfInBounds_toArray, List.set_cons_succ, List.set_cons_zero]
                      -- 2: slot 124 := Op.move t8
                      refine Rg.Chain.pure rfl (fun w => by go_simp; (try go_ints); with_reducible rfl) ?_
                      simp only [Act.put, List.setIfInBounds_toArray, List.set_cons_succ, List.set_cons_zero]
                      -- 3: slot 125 := Op.move t5
                      refine Rg.Chain.pure rfl (fun w => by go_simp; (try go_ints); with_reducible rfl) ?_
                      simp only [Act.put, List.setIfInBounds_toArray, List.set_cons_succ, List.set_cons_zero]
                      -- 4: slot 126 := Op.move t11
                      refine Rg.Chain.pure rfl (fun w => by go_simp; (try go_ints); with_reducible rfl) ?_
                      simp only [Act.put, List.setIfInBounds_toArray, List.set_cons_succ, List.set_cons_zero]
                      -- 5: slot 127 := Op.indexAddr 25 t125 t126
                      refine Rg.Chain.pure rfl (fun w => by go_simp; (try go_ints); with_reducible rfl) ?_
                      simp only [Act.put, List.setIfInBounds_toArray, List.set_cons_succ, List.set_cons_zero]
                      -- 6: slot 128 := Op.load 26 t127
                      refine Rg.Chain.readOld 20 _ hob ⟨rfl, rfl⟩ rfl (by decide) rfl (fun wx hs hx => by have q := box_cells hx jj; rw [hcu] at q; have z := box_lt hx; go_simp; try with_reducible rfl) ?_
                      simp only [Act.put, List.setIfInBounds_toArray, List.set_cons_succ, List.set_cons_zero]
                      -- 7: slot 129 := Op.indexAddr 26 t128 (const (0:i64))
                      refine Rg.Chain.pure rfl (fun w => by go_simp; (try go_ints); with_reducible rfl) ?_
                      simp only [Act.put, List.setIfInBounds_toArray, List.set_cons_succ, List.set_cons_zero]
                      -- 8: slot 130 := Op.load 33 t129
                      refine Rg.Chain.read rfl (fun wx hs => by obtain ⟨q0, q1, q2, q3, q4⟩ := hS wx hs; go_simp; with_reducible rfl) ?_
                      simp only [Act.put, List.setIfInBounds_toArray, List.set_cons_succ, List.set_cons_zero]
                      -- 9: slot 131 := Op.call ( value (Operand.func 6), args := #[t130], argTypes := #[33] )
                      refine Rg.Chain.call ?_ ?_ rfl (fun w => ?_) (fun wx hs => ?_) ?_
                      rotate_left 2
                      · go_simp; (try go_ints); constructor <;> with_reducible rfl
                      · exact (HBy.out _)
                      simp only [Act.put, List.setIfInBounds_toArray, List.set_cons_succ, List.set_cons_zero]
                      -- 10: slot 132 := Op.binOp BinOp.add 9 t124 t131 9
                      refine Rg.Chain.pure rfl (fun w => by go_simp; (first | with_reducible rfl | rw [if_neg (by omega)])) ?_
                      simp only [Act.put, List.setIfInBounds_toArray, List.set_cons_succ, List.set_cons_zero]
                      -- 11: slot 133 := Op.move t5
                      refine Rg.Chain.pure rfl (fun w => by go_simp; (try go_ints); with_reducible rfl) ?_
                      simp only [Act.put, List.setIfInBounds_toArray, List.set_cons_succ, List.set_cons_zero]
                      -- 12: slot 134 := Op.move t11
                      refine Rg.Chain.pure rfl (fun w => by go_simp; (try go_ints); with_reducible rfl) ?_
                      simp only [Act.put, List.setIfInBounds_toArray, List.set_cons_succ, List.set_cons_zero]
                      -- 13: slot 135 := Op.indexAddr 25 t133 t134
                      refine Rg.Chain.pure rfl (fun w => by go_simp; (try go_ints); with_reducible rfl) ?_
                      simp only [Act.put, List.setIfInBounds_toArray, List.set_cons_succ, List.set_cons_zero]
                      -- 14: slot 136 := Op.load 26 t135
                      refine Rg.Chain.readOld 20 _ hob ⟨rfl, rfl⟩ rfl (by decide) rfl (fun wx hs hx => by have q := box_cells hx jj; rw [hcu] at q; have z := box_lt hx; go_simp; try with_reducible rfl) ?_
                      simp only [Act.put, List.setIfInBounds_toArray, List.set_cons_succ, List.set_cons_zero]
                      -- 15: slot 137 := Op.slice 26 t136 (some (const (1:i64))) none none
                      refine Rg.Chain.pure rfl (fun w => by go_simp; intro h; exfalso; omega) ?_
                      simp only [Act.put, List.setIfInBounds_toArray, List.set_cons_succ, List.set_cons_zero]
                      -- 16: slot 138 := Op.move t6
                      refine Rg.Chain.pure rfl (fun w => by go_simp; (try go_ints); with_reducible rfl) ?_
                      simp only [Act.put, List.setIfInBounds_toArray, List.set_cons_succ, List.set_cons_zero]
                      -- 17: slot 139 := Op.binOp BinOp.sub 3 t138 (const (1:i64)) 3
                      refine Rg.Chain.pure rfl (fun w => by go_simp; (try go_ints); with_reducible rfl) ?_
                      simp only [Act.put, List.setIfInBounds_toArray, List.set_cons_succ, List.set_cons_zero]
                      -- 18: slot 8 := Op.assign t132
                      refine Rg.Chain.pure rfl (fun w => by go_simp; (try go_ints); with_reducible rfl) ?_
                      simp only [Act.put, List.setIfInBounds_toArray, List.set_cons_succ, List.set_cons_zero]
                      -- 19: slot 140 := Op.indexAddr 25 t122 t123
                      refine Rg.Chain.pure rfl (fun w => by go_simp; (try go_ints); with_reducible rfl) ?_
                      simp only [Act.put, List.setIfInBounds_toArray, List.set_cons_succ, List.set_cons_zero]
                      -- 20: slot none := Op.store 26 t140 t137
                      refine Rg.Chain.store hob ⟨rfl, rfl⟩ rfl (fun wx hs hx => ⟨wx.setCell ⟨g, jj, none⟩ (.slice (if cap3 = 1 then some ⟨g2, off, none⟩ else some ⟨g2, off + 4, none⟩) X.length (cap3 - 1)), by (have q := box_cells hx jj; rw [hcu] at q; have z := box_lt hx; have f := box_free hx jj; clear hS; go_simp; try with_reducible rfl), set_box hx _, Rg.step_set _ _ _ _⟩) ?_
                      simp only [Act.put]
                      -- 21: slot 6 := Op.assign t139
                      refine Rg.Chain.pure rfl (fun w => by go_simp; (try go_ints); with_reducible rfl) ?_
                      simp only [Act.put, List.setIfInBounds_toArray, List.set_cons_succ, List.set_cons_zero]
                      exact Rg.Chain.nil
                    case hown => rintro j i ⟨_, rfl⟩; exact hgl
                    case hdis => rintro i j k ⟨rfl, _⟩ ⟨rfl, _⟩; rfl
                    case hend =>
                      intro vs F w7 hE
                      have hbx := (hE.fact 20 _ (Rg.kept 20 (by decide)) rfl).1
                      have U7 : Below w.heap.size w w7 := hW.trans (Rg.step_from hE.step hW.size (fun j i hi => by obtain ⟨_, rfl⟩ := hi; exact hgB))
                      have hkp : Keeps wr w7 := step_keeps hE.step (T := 26) (by decide) (fun j i hi => by obtain ⟨_, rfl⟩ := hi; exact ⟨_, _, hob⟩)
                      have hnext := HSet.out w7 _ X hbx hkp (HTail.out w7 _ hkp (fun hl => if_neg (by omega)))
                      clear hE hkp hbx hW
                      simp only [Rg.finalAct, Rg.slot_val, Rg.slot_any, Act.put, List.setIfInBounds_toArray, List.set_cons_succ, List.set_cons_zero]
                      have HNext := Lib.hid hnext
                      clear hnext hS
                      go_wp2_with fail
                      have hMl := HMl.out
                      have hcs := HCS.out
                      go_roundw
                      case rel => exact ⟨_, _, c + 1, by simp only [Value.int.injEq, true_and]; omega, by rw [HEx.out], by go_num, by omega, HMn.out, HNext.out, U7⟩
                      case measure => simp [intOf]; omega
                · exfalso
                  have := hnil j0 (by omega)
                  rw [List.getElem?_eq_getElem hj0] at this
                  exact HJ1.out (Option.some.inj this)
            · clear hrr hj1
              obtain ⟨x, X, hx⟩ : ∃ x X, R[kk]'hkr = x :: X := by
                cases h : R[kk]'hkr with
                | nil => exact absurd h hne
                | cons x X => exact ⟨x, X, rfl⟩
              rw [hx] at hru
              obtain ⟨g2, off, cap3, cur2, rfl, e1, e2, hb2, c0, c1, c2, c3, htail⟩ := hru.first
              have hgl := box_lt hob
              have hgl2 := box_lt hb2
              have hg2 : g ≠ g2 := cells_ne hob hb2 (by decide)
              have r0 : wr.cell? ⟨g, kk, none⟩ = some (.slice (some ⟨g2, off, none⟩) (X.length + 1) cap3) := by rw [box_cells hob]; exact hcu
              have q6 : decide ((0 : Int) < ((X.length + 1 : Nat) : Int)) = true := decide_eq_true (by omega)
              have hxI := mix_rest_is hmi (by omega) kk hkr x (by rw [hx]; simp)
              have hml := mix_left kk hkr x X hx
              have hmn := mix_step hmi kk hkr x X hx
              have hXl : X.length + 1 ≤ 18000 := by
                have h1 := sumF_set List.length R kk hkr ([] : List Rec)
                rw [hx] at h1
                simp at h1
                unfold sumL at hc0
                omega
              have hBl : (allBytes E).length + x.bytes.length ≤ 180000 := by
                have h1 := hmn.bytes
                rw [allBytes_append, List.length_append] at h1
                have h2 : (allBytes [x]).length = x.bytes.length := by simp [allBytes]
                have h3 : sumB (mixAll Bd) ≤ 180000 := by rw [← HM.out]; exact HMB.out
                omega
              have hEx : allBytes (E ++ [x]) = allBytes E ++ x.bytes := by rw [allBytes_append]; simp [allBytes]
              have HBy := Lib.hid (fun w => rbytes_any x w (by have := hxI.2.2.2.2.1; omega))
              have HMn := Lib.hid hmn
              have HEx := Lib.hid hEx
              have HMl := Lib.hid hml
              have HTail := Lib.hid htail
              have HSet := Lib.hid hset
              have hcat : ¬ 9223372036854775807 < (allBytes E).length + x.bytes.length := by omega
              have hS : ∀ wx, Rg.Step (fun j => ∃ i, (fun i j => i = 20 ∧ j = g) i j) wr wx → wx.cell? ⟨g2, off, none⟩ = some (.int .i64 x.t) ∧ wx.cell? ⟨g2, off + 1, none⟩ = some (.int .i64 x.id) ∧ wx.cell? ⟨g2, off + 2, none⟩ = some (.string (bs x.c)) ∧ wx.cell? ⟨g2, off + 3, none⟩ = some (.int .i64 x.p) ∧ g2 < wx.heap.size := by
                intro wx hs
                have hb : wx.heap[g2]? = some (.cells cur2 33 (0, 0)) := by
                  rw [hs.block g2 hgl2 (by rintro ⟨i, _, hj⟩; exact hg2 hj.symm)]
                  exact hb2
                have q := box_cells hb
                rw [q, q, q, q]
                exact ⟨c0, c1, c2, c3, box_lt hb⟩
              clear hmn hEx hml htail hset hxI hBl hx hmi
              clear hne
              generalize hxb : x.bytes = xb at *
              generalize hab : allBytes E = A at *
              obtain ⟨xt, xi, xc, xp⟩ := x
              simp only at *
              clear hxb hab c0 c1 c2 c3 hcs hRl hML
              go_wp2_with fail
              refine Rg.region1 228 [.val ?_, .val ?_, .val ?_, .val ?_, .val ?_, .val ?_, .val (.slice (some ⟨g2, off, none⟩) (X.length + 1) cap3), .val ?_, .val ?_, .val (.string (bs xb)), .val ?_, .val ?_, .val ?_, .val ?_, .val (.slice (some ⟨g2, off, none⟩) (X.length + 1) cap3), .val (.slice (if cap3 = 1 then some ⟨g2, off, none⟩ else some ⟨g2, off + 4, none⟩) X.length (cap3 - 1)), .val ?_, .val ?_, .val ?_, .val ?_, .any (Rg.Box g (.cells (cur.setIfInBounds kk (.slice (if cap3 = 1 then some ⟨g2, off, none⟩ else some ⟨g2, off + 4, none⟩) X.length (cap3 - 1))) 26 (0, 0))), .val ?_] [] (fun i j => i = 20 ∧ j = g) (by kernel_rfl) (by decide +kernel) (by simp) rfl (by simp) ?hstab ?hown ?hdis ?hchain ?hend
              case hstab => exact Rg.stable_val (Rg.stable_val (Rg.stable_val (Rg.stable_val (Rg.stable_val (Rg.stable_val (Rg.stable_val (Rg.stable_val (Rg.stable_val (Rg.stable_val (Rg.stable_val (Rg.stable_val (Rg.stable_val (Rg.stable_val (Rg.stable_val (Rg.stable_val (Rg.stable_val (Rg.stable_val (Rg.stable_val (Rg.stable_val (Rg.stable_box (Rg.stable_val (Rg.stable_nil))))))))))))))))))))))
              case hchain =>
                intro vs
                -- 0: slot 91 := Op.move t5
                refine Rg.Chain.pure rfl (fun w => by go_simp; (try go_ints); with_reducible rfl) ?_
                simp only [Act.put, List.setIfInBounds_toArray, List.set_cons_succ, List.set_cons_zero]
                -- 1: slot 92 := Op.move t10
                refine Rg.Chain.pure rfl (fun w => by go_simp; (try go_ints); with_reducible rfl) ?_
                simp only [Act.put, List.setIfInBounds_toArray, List.set_cons_succ, List.set_cons_zero]
                -- 2: slot 93 := Op.move t8
                refine Rg.Chain.pure rfl (fun w => by go_simp; (try go_ints); with_reducible rfl) ?_
                simp only [Act.put, List.setIfInBounds_toArray, List.set_cons_succ, List.set_cons_zero]
                -- 3: slot 94 := Op.move t5
                refine Rg.Chain.pure rfl (fun w => by go_simp; (try go_ints); with_reducible rfl) ?_
                simp only [Act.put, List.setIfInBounds_toArray, List.set_cons_succ, List.set_cons_zero]
                -- 4: slot 95 := Op.move t10
                refine Rg.Chain.pure rfl (fun w => by go_simp; (try go_ints); with_reducible rfl) ?_
                simp only [Act.put, List.setIfInBounds_toArray, List.set_cons_succ, List.set_cons_zero]
                -- 5: slot 96 := Op.indexAddr 25 t94 t95
                refine Rg.Chain.pure rfl (fun w => by go_simp; (try go_ints); with_reducible rfl) ?_
                simp only [Act.put, List.setIfInBounds_toArray, List.set_cons_succ, List.set_cons_zero]
                -- 6: slot 97 := Op.load 26 t96
                refine Rg.Chain.readOld 20 _ hob ⟨rfl, rfl⟩ rfl (by decide) rfl (fun wx hs hx => by have q := box_cells hx kk; rw [hcu] at q; have z := box_lt hx; go_simp; try with_reducible rfl) ?_
                simp only [Act.put, List.setIfInBounds_toArray, List.set_cons_succ, List.set_cons_zero]
                -- 7: slot 98 := Op.indexAddr 26 t97 (const (0:i64))
                refine Rg.Chain.pure rfl (fun w => by go_simp; (try go_ints); with_reducible rfl) ?_
                simp only [Act.put, List.setIfInBounds_toArray, List.set_cons_succ, List.set_cons_zero]
                -- 8: slot 99 := Op.load 33 t98
                refine Rg.Chain.read rfl (fun wx hs => by obtain ⟨q0, q1, q2, q3, q4⟩ := hS wx hs; go_simp; with_reducible rfl) ?_
                simp only [Act.put, List.setIfInBounds_toArray, List.set_cons_succ, List.set_cons_zero]
                -- 9: slot 100 := Op.call ( value (Operand.func 6), args := #[t99], argTypes := #[33] )
                refine Rg.Chain.call ?_ ?_ rfl (fun w => ?_) (fun wx hs => ?_) ?_
                rotate_left 2
                · go_simp; (try go_ints); constructor <;> with_reducible rfl
                · exact (HBy.out _)
                simp only [Act.put, List.setIfInBounds_toArray, List.set_cons_succ, List.set_cons_zero]
                -- 10: slot 101 := Op.binOp BinOp.add 9 t93 t100 9
                refine Rg.Chain.pure rfl (fun w => by go_simp; (first | with_reducible rfl | rw [if_neg (by omega)])) ?_
                simp only [Act.put, List.setIfInBounds_toArray, List.set_cons_succ, List.set_cons_zero]
                -- 11: slot 102 := Op.move t5
                refine Rg.Chain.pure rfl (fun w => by go_simp; (try go_ints); with_reducible rfl) ?_
                simp only [Act.put, List.setIfInBounds_toArray, List.set_cons_succ, List.set_cons_zero]
                -- 12: slot 103 := Op.move t10
                refine Rg.Chain.pure rfl (fun w => by go_simp; (try go_ints); with_reducible rfl) ?_
                simp only [Act.put, List.setIfInBounds_toArray, List.set_cons_succ, List.set_cons_zero]
                -- 13: slot 104 := Op.indexAddr 25 t102 t103
                refine Rg.Chain.pure rfl (fun w => by go_simp; (try go_ints); with_reducible rfl) ?_
                simp only [Act.put, List.setIfInBounds_toArray, List.set_cons_succ, List.set_cons_zero]
                -- 14: slot 105 := Op.load 26 t104
                refine Rg.Chain.readOld 20 _ hob ⟨rfl, rfl⟩ rfl (by decide) rfl (fun wx hs hx => by have q := box_cells hx kk; rw [hcu] at q; have z := box_lt hx; go_simp; try with_reducible rfl) ?_
                simp only [Act.put, List.setIfInBounds_toArray, List.set_cons_succ, List.set_cons_zero]
                -- 15: slot 106 := Op.slice 26 t105 (some (const (1:i64))) none none
                refine Rg.Chain.pure rfl (fun w => by go_simp; intro h; exfalso; omega) ?_
                simp only [Act.put, List.setIfInBounds_toArray, List.set_cons_succ, List.set_cons_zero]
                -- 16: slot 107 := Op.move t6
                refine Rg.Chain.pure rfl (fun w => by go_simp; (try go_ints); with_reducible rfl) ?_
                simp only [Act.put, List.setIfInBounds_toArray, List.set_cons_succ, List.set_cons_zero]
                -- 17: slot 108 := Op.binOp BinOp.sub 3 t107 (const (1:i64)) 3
                refine Rg.Chain.pure rfl (fun w => by go_simp; (try go_ints); with_reducible rfl) ?_
                simp only [Act.put, List.setIfInBounds_toArray, List.set_cons_succ, List.set_cons_zero]
                -- 18: slot 8 := Op.assign t101
                refine Rg.Chain.pure rfl (fun w => by go_simp; (try go_ints); with_reducible rfl) ?_
                simp only [Act.put, List.setIfInBounds_toArray, List.set_cons_succ, List.set_cons_zero]
                -- 19: slot 109 := Op.indexAddr 25 t91 t92
                refine Rg.Chain.pure rfl (fun w => by go_simp; (try go_ints); with_reducible rfl) ?_
                simp only [Act.put, List.setIfInBounds_toArray, List.set_cons_succ, List.set_cons_zero]
                -- 20: slot none := Op.store 26 t109 t106
                refine Rg.Chain.store hob ⟨rfl, rfl⟩ rfl (fun wx hs hx => ⟨wx.setCell ⟨g, kk, none⟩ (.slice (if cap3 = 1 then some ⟨g2, off, none⟩ else some ⟨g2, off + 4, none⟩) X.length (cap3 - 1)), by (have q := box_cells hx kk; rw [hcu] at q; have z := box_lt hx; have f := box_free hx kk; clear hS; go_simp; try with_reducible rfl), set_box hx _, Rg.step_set _ _ _ _⟩) ?_
                simp only [Act.put]
                -- 21: slot 6 := Op.assign t108
                refine Rg.Chain.pure rfl (fun w => by go_simp; (try go_ints); with_reducible rfl) ?_
                simp only [Act.put, List.setIfInBounds_toArray, List.set_cons_succ, List.set_cons_zero]
                exact Rg.Chain.nil
              case hown => rintro j i ⟨_, rfl⟩; exact hgl
              case hdis => rintro i j k ⟨rfl, _⟩ ⟨rfl, _⟩; rfl
              case hend =>
                intro vs F w7 hE
                have hbx := (hE.fact 20 _ (Rg.kept 20 (by decide)) rfl).1
                have U7 : Below w.heap.size w w7 := hW.trans (Rg.step_from hE.step hW.size (fun j i hi => by obtain ⟨_, rfl⟩ := hi; exact hgB))
                have hkp : Keeps wr w7 := step_keeps hE.step (T := 26) (by decide) (fun j i hi => by obtain ⟨_, rfl⟩ := hi; exact ⟨_, _, hob⟩)
                have hnext := HSet.out w7 _ X hbx hkp (HTail.out w7 _ hkp (fun hl => if_neg (by omega)))
                clear hE hkp hbx hW
                simp only [Rg.finalAct, Rg.slot_val, Rg.slot_any, Act.put, List.setIfInBounds_toArray, List.set_cons_succ, List.set_cons_zero]
                have HNext := Lib.hid hnext
                clear hnext hS
                go_wp2_with fail
                have hMl := HMl.out
                have hcs := HCS.out
                go_roundw
                case rel => exact ⟨_, _, c + 1, by simp only [Value.int.injEq, true_and]; omega, by rw [HEx.out], by go_num, by omega, HMn.out, HNext.out, U7⟩
                case measure => simp [intOf]; omega
        · have q3 : decide ((0 : Int) < (sumL R : Int)) = false := decide_eq_false (by omega)
          have hEnd := mix_end hmi (by omega)
          obtain ⟨z0, z1, z2, z3⟩ := mix_read Bd (by omega) HAll.out E hEnd
          have hI := mix_is hmi (by omega)
          have hEb : (allBytes E).length ≤ 180000 := by
            have h1 := hmi.bytes
            have h3 : sumB (mixAll Bd) ≤ 180000 := by rw [← HM.out]; exact HMB.out
            omega
          have hRead := fun w hg => jRead_any E w hI (by omega) hg
          have hwf : ∀ s ∈ (JS.empty.run 0 E).1.l, (Lit.int .i64 s.id).wf = true := by
            intro s hs
            obtain ⟨q, hq, rfl⟩ := z2 s hs
            simp [mixS, Lit.wf, IntKind.min, IntKind.max, IntKind.signed, IntKind.bits]
            omega
          have hReuse := fun w hg => jReuse_any E [] (.slice none 0 0) w hI (by omega) hg ⟨rfl, by unfold maxLen; decide, none, 0, rfl, Nat.le_refl _, by unfold maxLen; decide, fun h => absurd h (by decide)⟩ hwf (by omega)
          rw [z0, z3] at hReuse
          have HRead := Lib.hid hRead
          have HReuse := Lib.hid hReuse
          have HZ2 := Lib.hid z2
          clear hRead hReuse hI hEnd hwf z2 z3 hmi hrr hcs hRl hML
          generalize JS.empty.run 0 E = RS at *
          obtain ⟨S, C⟩ := RS
          simp only at *
          subst z0
          generalize allBytes E = Z at *
          go_wp2_with fail
          refine (HRead.out _ (HG.out _ hW)).mono ?_
          rintro e w5 ⟨⟨hC, _⟩ | ⟨_, v5, rfl, hrow⟩, hb⟩
          · exact absurd rfl hC
          have W5 := below_later hW hb
          clear hb
          obtain ⟨rows, e1, ow, prs⟩ := hrow
          have hrl : rows.length = Bd.length := by rw [← z1, e1, List.length_map]
          obtain ⟨a5, c5, rfl⟩ := own_slice ow
          have HOW := Lib.hid ow
          have HPR := Lib.hid prs
          have HE1 := Lib.hid e1
          have HRLn := Lib.hid hrl
          rw [hrl]
          clear ow prs e1 z1 hrl
          go_wp2_with fail
          go_loopw [14] (fun i wq => ∃ jj : Nat, jj ≤ Bd.length ∧ i = .int .i64 jj ∧ Below w5.heap.size w5 wq) (fun i _ => Bd.length - (intOf i).toNat)
          case atStart => exact ⟨0, Nat.zero_le _, rfl, Below.refl _ _⟩
          case round =>
            obtain ⟨jj, hjj, rfl, hq⟩ := hrel
            have W6 := below_later W5 hq
            by_cases hlt : jj < Bd.length
            · have hrl := HRLn.out
              have hjr : jj < rows.length := by omega
              obtain ⟨g5, cap5, hv5, hgB5, hgl5, hc5⟩ := own_open HOW.out (by omega)
              obtain ⟨rfl, rfl⟩ : a5 = some ⟨g5, 0, none⟩ ∧ c5 = cap5 := by simpa using hv5
              have hat := fun j (hj : j < 5) => flat_at sntF rows (fun _ _ => rfl) jj j rows[jj] (List.getElem?_eq_getElem hjr) hj
              have c0 := hc5 _ _ (hat 0 (by omega))
              have c1 := hc5 _ _ (hat 1 (by omega))
              have c2 := hc5 _ _ (hat 2 (by omega))
              have c3 := hc5 _ _ (hat 3 (by omega))
              have c4 := hc5 _ _ (hat 4 (by omega))
              have hpr := HPR.out rows[jj] (List.getElem_mem hjr)
              obtain ⟨kk, hkk, hs⟩ := HZ2.out rows[jj].1 (by rw [HE1.out]; exact List.mem_map.2 ⟨_, List.getElem_mem hjr, rfl⟩)
              obtain ⟨b, off, rfl, hbl, hc⟩ := HH.out (by omega)
              have d0 : w.cell? ⟨b, off + kk, none⟩ = some (.string (bs Bd[kk])) := by have := hc kk hkk 0 _ rfl; rwa [Nat.mul_one, Nat.add_zero] at this
              rw [← W6.cell hbl] at d0
              have hz := Nat.lt_of_lt_of_le hbl W6.size
              rw [← hq.cell hgl5] at c0 c1 c2 c3 c4
              replace hgl5 := Nat.lt_of_lt_of_le hgl5 hq.size
              have hgd : Bd.getD kk [] = Bd[kk] := by rw [List.getD_eq_getElem?_getD, List.getElem?_eq_getElem hkk]; rfl
              generalize rows[jj] = q at *
              obtain ⟨qs, pv⟩ := q
              simp only at hs hpr
              subst hs
              simp only [mixS, hgd] at hpr c0 c1 c2 c3 c4
              obtain ⟨gp, capp, rfl, _, hglp, hcp⟩ := own_open hpr (by simp)
              have p1 := hcp 1 (.string (bs Bd[kk])) rfl
              rw [← hq.cell hglp] at p1
              replace hglp := Nat.lt_of_lt_of_le hglp hq.size
              simp only [List.length_cons, List.length_nil, Nat.add_zero] at *
              generalize Bd[kk] = x at *
              clear hat hc5 hc hcp hpr hgd hrl hv5
              have p2 : decide ((kk : Int) < 0) = false := decide_eq_false (by omega)
              have p3 : decide ((Bd.length : Int) ≤ (kk : Int)) = false := decide_eq_false (by omega)
              go_wp2_with fail
              go_quiet (fail)
              go_wp2_with fail
              go_roundw
              case rel => exact ⟨jj + 1, by omega, by go_num, below_drewN hq _⟩
              case measure => simp [intOf]; omega
            · obtain rfl : jj = Bd.length := by omega
              go_wp2_with fail
              refine (HReuse.out _ (HG.out _ W6)).mono ?_
              rintro e w6 ⟨rfl, hb⟩
              go_wp2_with fail
              go_ret
              exact ⟨rfl, below_later W6 hb⟩
end Go.Proofs.YtniflggmfegnfaaDoor
