/- conduitlaw3.PairBack answers true at all arguments, where the package errors' variable holds what it was given. Condition: that. -/
import Derived.Test.YtfhddeghmlnobaaDoorKnown3
import Derived.Test.YtfhddeghmlnobaaDoorAppArg
namespace Go.Proofs.YtfhddeghmlnobaaDoor
open Go.RowKit

theorem Reads.front {w : World} {a : Option Addr} {n cap size : Nat} {xs : List Value} (h : Reads w (.slice a n cap) size n xs) (j : Nat) (hj : j ≤ n) : Reads w (.slice a j cap) size j (xs.take (j * size)) := by
  obtain ⟨h1, h2, a', cap', hv, h3, h4, hr⟩ := h
  simp only [Value.slice.injEq] at hv
  obtain ⟨rfl, _, rfl⟩ := hv
  have : j * size ≤ n * size := Nat.mul_le_mul_right _ hj
  refine ⟨by rw [List.length_take]; omega, by omega, a, cap, rfl, by omega, h4, fun h0 => ?_⟩
  obtain ⟨b, off, ha, hc⟩ := hr (by omega)
  refine ⟨b, off, ha, fun i u hi => hc i u ?_⟩
  rw [List.getElem?_take] at hi
  split at hi
  · exact hi
  · cases hi
theorem pairs_front (l : List (Bs × Bs)) (j : Nat) : (l.take j).flatMap pairCells = (l.flatMap pairCells).take (j * 2) := by
  induction l generalizing j with
  | nil => simp
  | cons p l ih =>
    cases j with
    | zero => simp
    | succ j =>
      rw [List.take_succ_cons, List.flatMap_cons, List.flatMap_cons, ih, Nat.add_mul]
      have : (pairCells p).length = 2 := rfl
      rw [show j * 2 + 1 * 2 = (pairCells p).length + j * 2 by rw [this]; omega, List.take_length_add_append]
theorem pairB_none (l : List (Bs × Bs)) : pairB l = [] ↔ l = [] := by
  constructor
  · intro h
    cases l with
    | nil => rfl
    | cons p l =>
      have := encP_pos p
      have e := congrArg List.length h
      rw [pairB_cons, List.length_append, List.length_nil] at e
      omega
  · rintro rfl; rfl

set_option maxRecDepth 100000 in
set_option maxHeartbeats 8000000 in
theorem pk_any (la lb : List (Bs × Bs)) (va vb : Value) (c : Int) (w : World) (hc0 : 0 ≤ c) (hc1 : c < 65536) (hRa : Reads w va 2 la.length (la.flatMap pairCells)) (hRb : Reads w vb 2 lb.length (lb.flatMap pairCells)) (hFa : ∀ p ∈ la, PairFit p) (hFb : ∀ p ∈ lb, PairFit p)
    (hg : w.cell? ⟨0, 0, none⟩ = some errTypeV) :
    Calls Tryd.prog 3 #[va, vb, .int .u16 c] w fun e w' => e = .returned (.bool true) ∧ Below w.heap.size w w' := by
  have hg' : ∀ w', Below w.heap.size w w' → w'.cell? ⟨0, 0, none⟩ = some errTypeV := fun w' hb => by rw [hb.cell (World.block_lt_of_cell? w _ hg)]; exact hg
  have HG := Lib.hid hg'
  clear hg hg'
  have hla := hRa.2.1
  have hlb := hRb.2.1
  unfold maxLen at hla hlb
  have hRa0 := hRa
  have hRb0 := hRb
  obtain ⟨a, cap, rfl, _⟩ := hRa.opened (fun _ _ => rfl) (by decide)
  obtain ⟨a2, cap2, rfl, _⟩ := hRb.opened (fun _ _ => rfl) (by decide)
  have HRa := Lib.hid (fun w' (hb : Below w.heap.size w w') => hRa0.later (by decide) hb)
  have HRb := Lib.hid (fun w' (hb : Below w.heap.size w w') => hRb0.later (by decide) hb)
  have hFit : ∀ p ∈ la ++ lb, PairFit p := by
    intro p hp
    rcases List.mem_append.1 hp with h | h
    · exact hFa p h
    · exact hFb p h
  have HF := Lib.hid hFit
  clear hRa hRb hRa0 hRb0 hFa hFb hFit
  go_enter Tryd.func3, Tryd.ntmps3
  go_wp2_with fail
  refine (known3 _ (HG.out _ (Below.refl _ _))).mono ?_
  rintro e w1 ⟨rfl, W1⟩
  by_cases ha20 : 20 < la.length
  · have q1 : decide ((20 : Int) < (la.length : Int)) = true := by simp; omega
    go_wp2_with fail
    go_ret
    exact ⟨rfl, W1⟩
  have q1 : decide ((20 : Int) < (la.length : Int)) = false := by simp; omega
  by_cases hb20 : 20 < lb.length
  · have q2 : decide ((20 : Int) < (lb.length : Int)) = true := by simp; omega
    go_wp2_with fail
    go_ret
    exact ⟨rfl, W1⟩
  have q2 : decide ((20 : Int) < (lb.length : Int)) = false := by simp; omega
  have o1 := World.ownsRow_nil w1 w.heap.size 26 2
  have r1 := HRa.out w1 W1
  go_wp2_with (at_builtin; first
    | (refine wpList_append_arg_p o1 r1 W1.size (pair_cells_one _) (by omega) rfl _ _ rfl rfl rfl rfl ?_; intro v4 w4 o4 hb4; have W4 := W1.trans hb4; have r4 := HRb.out w4 W4; clear hb4 W1 o1 r1 q1 q2)
    | (refine wpList_append_arg_p o4 r4 W4.size (pair_cells_one _) (by omega) rfl _ _ rfl rfl rfl rfl ?_; intro v6 w6 o6 hb6; have W6 := W4.trans hb6; clear hb6 W4 o4 r4))
  have hlen : 0 + la.length + lb.length = (la ++ lb).length := by simp
  have hcl : [] ++ la.flatMap pairCells ++ lb.flatMap pairCells = (la ++ lb).flatMap pairCells := by simp
  rw [hlen, hcl] at o6
  have hl40 : (la ++ lb).length ≤ 40 := by simp; omega
  have hPB : pairB (la ++ lb) = pairB la ++ pairB lb := pairB_append la lb
  have HPB := Lib.hid hPB
  have hsub : ∀ p, p ∈ la ∨ p ∈ lb → p ∈ la ++ lb := fun p h => List.mem_append.2 h
  have HSub := Lib.hid hsub
  clear hlen hcl hPB hsub
  generalize hal : la ++ lb = al at *
  have Rl := own_reads o6
  obtain ⟨aa, capa, rfl, hop⟩ := Rl.opened (fun _ _ => rfl) (by decide)
  have HOP := Lib.hid hop
  have HRl := Lib.hid (fun w' (hb : Below w6.heap.size w6 w') => Rl.later (by decide) hb)
  clear Rl hop o6 hal
  go_wp2_with fail
  go_loopw [8] (fun i wr => ∃ k : Nat, k ≤ al.length ∧ i = .int .i64 k ∧ Below w6.heap.size w6 wr ∧ ∀ j (h : j < al.length), j < k → al[j].1.length ≤ 600 ∧ al[j].2.length ≤ 600) (fun i _ => al.length - (intOf i).toNat)
  case atStart => exact ⟨0, Nat.zero_le _, rfl, Below.refl _ _, fun j _ hj => by omega⟩
  case round =>
    obtain ⟨k, hk, rfl, hW, hall⟩ := hrel
    by_cases hlt : k < al.length
    · obtain ⟨b, off, rfl, hbl, hc⟩ := HOP.out (by omega)
      have c0 : w6.cell? ⟨b, off + k * 2, none⟩ = some (.string (bs al[k].1)) := hc k hlt 0 _ rfl
      have c1 : w6.cell? ⟨b, off + k * 2 + 1, none⟩ = some (.string (bs al[k].2)) := hc k hlt 1 _ rfl
      rw [← hW.cell hbl] at c0 c1
      have hz := Nat.lt_of_lt_of_le hbl hW.size
      have hfit := HF.out _ (List.getElem_mem hlt)
      have hnext : al[k].1.length ≤ 600 → al[k].2.length ≤ 600 → ∀ j (h : j < al.length), j < k + 1 → al[j].1.length ≤ 600 ∧ al[j].2.length ≤ 600 := by
        intro h1 h2 j hj hjk
        by_cases e : j = k
        · subst e; exact ⟨h1, h2⟩
        · exact hall j hj (by omega)
      have HN := Lib.hid hnext
      clear hnext hall hc
      unfold PairFit maxLen at hfit
      obtain ⟨hf1, hf2⟩ := hfit
      generalize hx : al[k].1 = x at *
      generalize hy : al[k].2 = y at *
      by_cases hx6 : 600 < x.length
      · have q3 : decide ((600 : Int) < (x.length : Int)) = true := by simp; omega
        go_wp2_with fail
        go_ret
        exact ⟨rfl, W6.trans (hW.mono W6.size)⟩
      have q3 : decide ((600 : Int) < (x.length : Int)) = false := by simp; omega
      by_cases hy6 : 600 < y.length
      · have q4 : decide ((600 : Int) < (y.length : Int)) = true := by simp; omega
        go_wp2_with fail
        go_ret
        exact ⟨rfl, W6.trans (hW.mono W6.size)⟩
      have q4 : decide ((600 : Int) < (y.length : Int)) = false := by simp; omega
      go_wp2_with fail
      go_roundw
      case rel => exact ⟨k + 1, by omega, by go_num, hW, HN.out (by omega) (by omega)⟩
      case measure => simp [intOf]; omega
    · obtain rfl : k = al.length := by omega
      have hall2 : ∀ p ∈ al, p.1.length ≤ 600 ∧ p.2.length ≤ 600 := by
        intro p hp
        obtain ⟨j, hj, rfl⟩ := List.getElem_of_mem hp
        exact hall j hj hj
      have hpl : (pairB al).length ≤ 1000000 := by
        have := pairB_le 600 al hall2
        have : (2 * 600 + 8) * al.length ≤ (2 * 600 + 8) * 40 := Nat.mul_le_mul_left _ hl40
        omega
      have hall3 : ∀ p ∈ al, p.1.length ≤ 100000 ∧ p.2.length ≤ 100000 := fun p hp => ⟨by have := (hall2 p hp).1; omega, by have := (hall2 p hp).2; omega⟩
      have hall4 : ∀ p ∈ al, p.1.length ≤ 2147483647 ∧ p.2.length ≤ 2147483647 := fun p hp => ⟨by have := (hall2 p hp).1; omega, by have := (hall2 p hp).2; omega⟩
      have W := below_later W6 hW
      have hB := fun w' (hb : Below w6.heap.size w6 w') => pbytes_any al _ w' (HRl.out w' hb) (by omega) hall3
      have hBa := fun w' (hb : Below w.heap.size w w') => pbytes_any la _ w' (HRa.out w' hb) (by omega) (fun p hp => hall3 p (HSub.out p (.inl hp)))
      have hBb := fun w' (hb : Below w.heap.size w w') => pbytes_any lb _ w' (HRb.out w' hb) (by omega) (fun p hp => hall3 p (HSub.out p (.inr hp)))
      have hR := fun w' hg => pread_any (pairB al) w' hg
      rw [readP_pairs al 0 hall4 (by omega)] at hR
      simp only [errV_zero] at hR
      have hcut := fun c hc => readP_cut al 0 c hall4 (by omega) hc
      have hnone := pairB_none al
      have HB := Lib.hid hB
      have HBa := Lib.hid hBa
      have HBb := Lib.hid hBb
      have HR := Lib.hid hR
      have HCut := Lib.hid hcut
      have HNone := Lib.hid hnone
      have hpb := HPB.out
      clear hB hBa hBb hR hcut hnone hall hall2 hall3 hall4
      generalize pairB al = S at *
      generalize pairB la = SA at *
      generalize pairB lb = SB at *
      have hSS : SA.length + SB.length ≤ 1000000 := by rw [hpb, List.length_append] at hpl; exact hpl
      have HPb := Lib.hid hpb
      clear hpb HPB
      go_wp2_with fail
      refine (HB.out _ hW).mono ?_
      rintro e w7 ⟨rfl, hb⟩
      have W7 := below_later W hb
      have V7 := below_later hW hb
      clear hb W hW
      go_wp2_with fail
      refine (HR.out _ (HG.out _ W7)).mono ?_
      rintro e w8 ⟨v8, rfl, o8, hb⟩
      have W8 := below_later W7 hb
      have V8 := below_later V7 hb
      clear hb W7 V7
      go_wp2_with fail
      refine (samep_any al v8 _ w8 (by omega) (own_reads o8) (HRl.out w8 V8)).mono ?_
      rintro e w9 ⟨rfl, hb⟩
      have W9 := below_later W8 hb
      have V9 := below_later V8 hb
      clear hb W8 V8 o8
      go_wp2_with fail
      refine (HBa.out _ W9).mono ?_
      rintro e w10 ⟨rfl, hb⟩
      have W10 := below_later W9 hb
      have V10 := below_later V9 hb
      clear hb W9 V9
      go_wp2_with fail
      refine (HBb.out _ W10).mono ?_
      rintro e w11 ⟨rfl, hb⟩
      have W11 := below_later W10 hb
      have V11 := below_later V10 hb
      clear hb W10 V10
      have qS : SA ++ SB = S := HPb.out.symm
      by_cases hS0 : S = []
      · have hal0 := HNone.out.1 hS0
        subst hS0
        obtain ⟨rfl, rfl⟩ := List.append_eq_nil_iff.1 qS
        subst hal0
        clear qS
        go_wp2_with fail
        go_ret
        exact ⟨rfl, W11⟩
      have hSl : 0 < S.length := List.length_pos_iff.2 hS0
      have hSn : (S.length : Int) ≠ 0 := by omega
      have qS0 : ((S.length : Int) == 0) = false := by simpa using hSn
      have m0 : 0 ≤ c % (S.length : Int) := Int.emod_nonneg _ hSn
      have m1 : c % (S.length : Int) < (S.length : Int) := Int.emod_lt_of_pos _ (by omega)
      have m2 : c % (S.length : Int) ≤ (S.length : Int) := by omega
      have hcut := HCut.out (c % (S.length : Int)).toNat (by omega)
      clear hS0
      have hRc := fun u hg => pread_any (S.take (c % (S.length : Int)).toNat) u hg
      have HRc := Lib.hid hRc
      have HHcut := Lib.hid hcut
      clear hRc hcut
      go_wp2_with fail
      refine (HRc.out _ (HG.out _ W11)).mono ?_
      rintro e w12 ⟨v12, rfl, o12, hb⟩
      have W12 := below_later W11 hb
      have V12 := below_later V11 hb
      clear hb W11 V11
      rcases HHcut.out with hq | ⟨j, hj, hq⟩
      · rw [hq] at o12 ⊢
        simp only at o12 ⊢
        rw [errV_num (by decide)]
        go_wp2_with fail
        refine (is_num 11 11 _).mono ?_
        rintro e w13 ⟨rfl, rfl⟩
        go_wp2_with fail
        go_ret
        exact ⟨rfl, W12⟩
      · rw [hq] at o12 ⊢
        simp only [errV_zero] at o12 ⊢
        have hjl : (al.take j).length = j := by rw [List.length_take]; omega
        have R12 := own_reads o12
        obtain ⟨a12, cap12, rfl⟩ := own_slice o12
        have Rf := (HRl.out w12 V12).front j (by omega)
        rw [← pairs_front] at Rf
        have hsame := samep_any (al.take j) (.slice a12 (al.take j).length cap12) (.slice aa j capa) w12 (by omega) R12 (by rw [hjl]; exact Rf)
        rw [hjl] at hsame ⊢
        have qj : decide ((j : Int) < (al.length : Int)) = true := by simp; omega
        have j0 : (j : Int) ≤ (al.length : Int) := by omega
        have hcapa : al.length ≤ capa := by
          obtain ⟨_, _, a', cap', hv, hc, _⟩ := HRl.out w12 V12
          simp only [Value.slice.injEq] at hv
          omega
        have jc : (j : Int) ≤ (capa : Int) := by omega
        have HSame := Lib.hid hsame
        clear hsame Rf R12 o12
        go_wp2_with fail
        refine (is_nil 11 _).mono ?_
        rintro e w13 ⟨rfl, rfl⟩
        go_wp2_with fail
        refine HSame.out.mono ?_
        rintro e w14 ⟨rfl, hb⟩
        go_wp2_with fail
        go_ret
        exact ⟨rfl, below_later W12 hb⟩
theorem pk_said (va vb : Value) (la lb : List (Bs × Bs)) (c : Int) (w : World) (hc : 0 ≤ c ∧ c < 65536) (hRa : Reads w va 2 la.length (la.flatMap pairCells)) (hRb : Reads w vb 2 lb.length (lb.flatMap pairCells)) (hFa : ∀ p ∈ la, PairFit p) (hFb : ∀ p ∈ lb, PairFit p)
    (hg : w.cell? ⟨0, 0, none⟩ = some errTypeV) :
    Calls Tryd.prog 3 #[va, vb, .int .u16 c] w fun e w' => e = .returned (.bool true) ∧ Below w.heap.size w w' := pk_any la lb va vb c w hc.1 hc.2 hRa hRb hFa hFb hg
end Go.Proofs.YtfhddeghmlnobaaDoor
