/- conduitlaw26.JudgeCuts answers true at every argument, where the package errors' variable holds what it was given. Condition: that. -/
import Derived.Test.YtbhdoechhfgpeaaRRRDoorKnown26
namespace Go.Proofs.YtbhdoechhfgpeaaRRRDoor
open Go.RowKit

theorem take_reads {B : Nat} {w : World} {g cap : Nat} {L : List Rec} (h : w.ownsRow B 27 4 (.slice (some ⟨g, 0, none⟩) L.length cap) L.length (recCells L)) (K : Nat) (hK : K ≤ L.length) (c2 : Nat) (hc1 : K ≤ c2) (hc2 : c2 ≤ maxLen) : Reads w (.slice (some ⟨g, 0, none⟩) K c2) 4 (L.take K).length (recCells (L.take K)) := by
  have hl : (L.take K).length = K := by rw [List.length_take]; omega
  refine ⟨flat_len (size := 4) Rec.cells (L.take K) (fun _ _ => rfl), by omega, _, c2, by rw [hl], by omega, hc2, fun _ => ⟨g, 0, rfl, fun j u hj => ?_⟩⟩
  have hpre : (recCells L)[j]? = some u := by
    have e : recCells L = recCells (L.take K) ++ recCells (L.drop K) := by rw [← recCells_append, List.take_append_drop]
    rw [e, List.getElem?_append_left (List.getElem?_eq_some_iff.1 hj).1]
    exact hj
  have := h.cells (g := g) rfl j u hpre
  rw [add_plain, Nat.zero_add] at this
  rw [Nat.zero_add]
  exact this

set_option maxRecDepth 100000 in
set_option maxHeartbeats 8000000 in
theorem jc_any (body : Bs) (at_ bh : Int) (w : World) (ha0 : 0 ≤ at_) (ha1 : at_ < 256) (hb0 : 0 ≤ bh) (hb1 : bh < 256) (hbody : body.length ≤ 9223372036854775807) (hg : w.cell? ⟨0, 0, none⟩ = some errTypeV) :
    Calls Tryd.prog 6 #[.string (bs body), .int .u8 at_, .int .u8 bh] w fun e w' => e = .returned (.bool true) ∧ Below w.heap.size w w' := by
  have hg0 : 0 < w.heap.size := World.block_lt_of_cell? w _ hg
  have hg' : ∀ w', Below w.heap.size w w' → w'.cell? ⟨0, 0, none⟩ = some errTypeV := fun w' hb => by rw [hb.cell hg0]; exact hg
  have HG := Lib.hid hg'
  clear hg hg'
  go_enter Tryd.func6, Tryd.ntmps6
  go_wp2_with fail
  refine (known26 _ (HG.out _ (Below.refl _ _))).mono ?_
  rintro e w1 ⟨rfl, W1⟩
  by_cases h12 : 1200 < body.length
  · have q1 : decide ((1200 : Int) < (body.length : Int)) = true := by simp; omega
    go_wp2_with fail
    go_ret
    exact ⟨rfl, W1⟩
  have q1 : decide ((1200 : Int) < (body.length : Int)) = false := by simp; omega
  go_wp2_with fail
  clear q1
  have hpr : ∀ w', Below (w1.alloc (.cells #[.string (bs [110]), .string (bs [118])] 42)).heap.size (w1.alloc (.cells #[.string (bs [110]), .string (bs [118])] 42)) w' → Reads w' (.slice (some ⟨w1.heap.size, 0, none⟩) 1 1) 2 ([([110], [118])] : List (Bs × Bs)).length (([([110], [118])] : List (Bs × Bs)).flatMap pairCells) := fun w' hb => own_reads (own_kept (row_pair w1 [110] [118]).1 hb)
  have W2 := below_later W1 (below_alloc w1 (.cells #[.string (bs [110]), .string (bs [118])] 42))
  have hpl : (pairB [([110], [118])]).length = 4 := by kernel_rfl
  have hP := one_pair [110] [118] (by decide) (by decide)
  refine (rbuild_any 1 [([110], [118])] body _ _ (fun w' hb => rpairs_any [([110], [118])] _ w' (hpr w' hb) (by decide) (by intro p hp; simp at hp; subst hp; decide)) (by rw [hpl]; decide) (by omega)).mono ?_
  rintro e w3 ⟨v, rfl, ho, hb⟩
  have W3 := below_later W2 hb
  clear hb hpr W2 W1
  have hI := build_is 1 (by decide) [([110], [118])] body
  have hbl := build_bytes 1 (by decide) [([110], [118])] body
  rw [hpl] at hbl
  have hLn : (buildR 1 [([110], [118])] body).length = (tailR 1 [([110], [118])] body).length + 1 := rfl
  have hLm : (buildR 1 [([110], [118])] body).length ≤ 2000 := by
    have lA := splitR_len 4 1 (pairB [([110], [118])])
    have lB := splitR_len 5 1 body
    rw [hpl] at lA
    simp [buildR]; omega
  obtain ⟨g, cap, rfl, _, hgl, _⟩ := own_open ho (by omega)
  generalize hL : buildR 1 [([110], [118])] body = L at *
  have hL0 : 0 < L.length := by omega
  obtain ⟨k, hmod⟩ : ∃ k : Nat, at_ % (L.length : Int) = (k : Int) := ⟨(at_ % (L.length : Int)).toNat, by have := Int.emod_nonneg at_ (show (L.length : Int) ≠ 0 by omega); omega⟩
  have hkl : k < L.length := by have := Int.emod_lt_of_pos at_ (show (0 : Int) < (L.length : Int) by omega); omega
  have hcap : L.length ≤ cap ∧ cap ≤ maxLen := by
    rcases ho.2 with ⟨h, _⟩ | ⟨g', cap', cur, h, _, _, h1, h2, _⟩
    · cases h
    · simp only [Value.slice.injEq, true_and] at h; obtain ⟨_, rfl⟩ := h; exact ⟨h1, h2⟩
  obtain ⟨hcap1, hcap2⟩ := hcap
  have hkc : k < cap := by omega
  have hkz : k ≤ 2000 := by omega
  have HLN := Lib.hid hLn
  have HL := Lib.hid hL
  have hkc1 : k + 1 ≤ cap := by omega
  clear hLn hL
  have hkt : k ≤ (tailR 1 [([110], [118])] body).length := by have := HLN.out; omega
  have hE1 : L.take (k + 1) ++ [abtR 1] = beginR 1 true :: ((tailR 1 [([110], [118])] body).take k ++ [abtR 1]) := by rw [← HL.out, build_eq]; rfl
  obtain ⟨s, far, pp, r1, r2, r3, r4, r5, r6⟩ := cut_one [([110], [118])] body hP k hkt
  have hmr := fun x hx ht => cut_more [([110], [118])] body hP k hkt x hx ht
  obtain ⟨s2, m1, m2⟩ := cut_again [([110], [118])] body hP k hkt
  rw [← hE1] at r1 r2 hmr m1 m2
  have r5' : s.whole = decide (k + 1 = L.length) := by rw [r5]; congr 1; have := HLN.out; exact propext ⟨fun h => by omega, fun h => by omega⟩
  have hIt : ∀ x ∈ L.take (k + 1), x.Is := fun x hx => hI x (List.mem_of_mem_take hx)
  have hIe : ∀ x ∈ L.take (k + 1) ++ [abtR 1], x.Is := fun x hx => (List.mem_append.1 hx).elim (hIt x) (fun h => by simp at h; subst h; decide)
  have hXb : (allBytes [abtR 1]) = (abtR 1).bytes := by simp [allBytes]
  have hXl : (abtR 1).bytes.length = 8 := by kernel_rfl
  have hAl := allBytes_take_le L (k + 1)
  have hAb : (allBytes (L.take (k + 1))).length ≤ 100000 := by omega
  have hAll := all_any (L.take (k + 1)) (.slice (some ⟨g, 0, none⟩) (k + 1) cap) w3 (take_reads ho (k + 1) (by omega) cap hkc1 hcap2) hIt (by omega)
  have hR1 := fun c (hc : c = allBytes (L.take (k + 1) ++ [abtR 1])) w' hg => (hc ▸ jRead_any (L.take (k + 1) ++ [abtR 1]) w' hIe (by rw [allBytes_append, List.length_append, hXb, hXl]; omega) hg : Calls Tryd.prog 16 #[.string (bs c)] w' _)
  have hR2 := fun (x : Rec) (hx : x.Is) (hxl : x.bytes.length ≤ 100) c (hc : c = allBytes ((L.take (k + 1) ++ [abtR 1]) ++ [x])) w' hg => (hc ▸ jRead_any ((L.take (k + 1) ++ [abtR 1]) ++ [x]) w' (fun y hy => (List.mem_append.1 hy).elim (hIe y) (fun h => by simp at h; subst h; exact hx)) (by
    have hxb : (allBytes [x]) = x.bytes := by simp [allBytes]
    rw [allBytes_append, allBytes_append, List.length_append, List.length_append, hXb, hXl, hxb]; omega) hg : Calls Tryd.prog 16 #[.string (bs c)] w' _)
  have hap : allBytes (L.take (k + 1) ++ [abtR 1]) = allBytes (L.take (k + 1)) ++ (abtR 1).bytes := by rw [allBytes_append, hXb]
  have hap2 : ∀ x : Rec, allBytes ((L.take (k + 1) ++ [abtR 1]) ++ [x]) = allBytes (L.take (k + 1)) ++ ((abtR 1).bytes ++ x.bytes) := by
    intro x
    have hxb : (allBytes [x]) = x.bytes := by simp [allBytes]
    rw [allBytes_append, hap, hxb, List.append_assoc]
  rw [hap] at hR1
  simp only [hap2] at hR2
  rw [r1, r2] at hR1
  clear hE1 hAl hXb r1 r2 r5 r6 hap hap2 hIt hIe
  generalize L.take (k + 1) ++ [abtR 1] = E1 at *
  generalize hA : allBytes (L.take (k + 1)) = A at *
  have hBa := fun w => rbytes_any (abtR 1) w (by decide)
  generalize (abtR 1).bytes = X at *
  have HAll := Lib.hid hAll
  have HR1 := Lib.hid hR1
  have HR2 := Lib.hid hR2
  have HMR := Lib.hid hmr
  have HM1 := Lib.hid m1
  have HM2 := Lib.hid m2
  have HBa := Lib.hid hBa
  have HR5 := Lib.hid r5'
  have hax : ¬ 9223372036854775807 < A.length + X.length := by omega
  clear hAll hR1 hR2 hmr m1 m2 hBa r5' hA
  go_wp2_with fail
  refine HAll.out.mono ?_
  rintro e w4 ⟨rfl, hb⟩
  have W4 := below_later W3 hb
  clear hb ho hgl W3
  go_wp2_with fail
  refine (rabort_any 1 _).mono ?_
  rintro e w5 ⟨rfl, hb⟩
  have W5 := below_later W4 hb
  clear hb W4
  go_wp2_with fail
  refine (HBa.out _).mono ?_
  rintro e w6 ⟨rfl, hb⟩
  have W6 := below_later W5 hb
  clear hb W5
  go_wp2_with fail
  refine (HR1.out _ rfl _ (HG.out _ W6)).mono ?_
  rintro e w7 ⟨⟨hC, _⟩ | ⟨_, v7, rfl, hrow⟩, hb⟩
  · exact absurd rfl hC
  have W7 := below_later W6 hb
  clear hb W6
  obtain ⟨rows, e1, ow, prs⟩ := hrow
  obtain ⟨q, rfl⟩ : ∃ q, rows = [q] := by
    match rows, e1 with
    | [q], _ => exact ⟨q, rfl⟩
    | [], e1 => simp at e1
    | _ :: _ :: _, e1 => simp at e1
  simp only [List.map_cons, List.map_nil, List.cons.injEq, and_true] at e1
  obtain ⟨qs, pv⟩ := q
  simp only at e1
  subst e1
  obtain ⟨g2, cap2, rfl, _, hgl2, hc⟩ := own_open ow (by simp)
  have c3 := hc 3 _ rfl
  have c4 := hc 4 _ rfl
  rw [r4] at c4
  rw [HR5.out] at c3
  simp only [List.length_cons, List.length_nil] at *
  clear hc ow prs r3 r4
  have hkk : decide (k + 1 = L.length) = decide ((k : Int) + 1 = (L.length : Int)) := by congr 1; exact propext ⟨fun h => by omega, fun h => by omega⟩
  rw [hkk] at c3
  have hn : ((k : Int) + 1 == (L.length : Int)) = decide ((k : Int) + 1 = (L.length : Int)) := rfl
  generalize hq : decide ((k : Int) + 1 = (L.length : Int)) = qb at *
  clear hq hkk HR5
  go_wp2_with fail
  clear c3 c4 hgl2
  refine (rabort_any 1 _).mono ?_
  rintro e w8 ⟨rfl, hb⟩
  have W8 := below_later W7 hb
  clear hb W7
  go_wp2_with fail
  refine (rbegin_any 1 true _).mono ?_
  rintro e w9 ⟨rfl, hb⟩
  have W9 := below_later W8 hb
  clear hb W8
  have hj : bh % 4 = 0 ∨ bh % 4 = 1 ∨ bh % 4 = 2 ∨ bh % 4 = 3 := by omega
  rcases hj with hj | hj | hj | hj
  · have hix : ∀ w, (Instr.index 57 (.agg #[.int .i64 2, .int .i64 1, .string (bs []), .int .i64 0, .int .i64 5, .int .i64 1, .string (bs []), .int .i64 0, .int .i64 4, .int .i64 1, .string (bs []), .int .i64 0, .int .i64 (beginR 1 true).t, .int .i64 (beginR 1 true).id, .string (bs (beginR 1 true).c), .int .i64 (beginR 1 true).p]) (.int .u8 0)).run Tryd.prog w = .ok (.agg #[.int .i64 2, .int .i64 1, .string (bs []), .int .i64 0]) w := by intro w; kernel_rfl
    have hxI : (abtR 1).Is := by decide
    have hxl : (abtR 1).bytes.length ≤ 100 := by decide +kernel
    have hRx := HR2.out (abtR 1) hxI hxl
    have hBx := fun w => rbytes_any (abtR 1) w (by decide)
    rw [HMR.out (abtR 1) rfl (by decide)] at hRx
    generalize hY : (abtR 1).bytes = Y at *
    have HRx := Lib.hid hRx
    have HBx := Lib.hid hBx
    have hay1 : ¬ 9223372036854775807 < A.length + (X.length + Y.length) := by omega
    have hay2 : ¬ 9223372036854775807 < A.length + X.length + Y.length := by omega
    clear hRx hBx hY hxI
    go_wp2_with fail
    refine (HBx.out _).mono ?_
    rintro e w10 ⟨rfl, hb⟩
    have W10 := below_later (below_later W9 (below_alloc _ _)) hb
    clear hb
    go_wp2_with fail
    refine (HRx.out _ (by simp) _ (HG.out _ W10)).mono ?_
    rintro e w11 ⟨⟨_, rfl⟩ | ⟨hC, _⟩, hb⟩
    rotate_left
    · exact absurd hC (by decide)
    have W11 := below_later W10 hb
    go_wp2_with fail
    refine (is_num 18 18 _).mono ?_
    rintro e w12 ⟨rfl, rfl⟩
    go_wp2_with fail
    go_ret
    exact ⟨rfl, W11⟩
  · have hix : ∀ w, (Instr.index 57 (.agg #[.int .i64 2, .int .i64 1, .string (bs []), .int .i64 0, .int .i64 5, .int .i64 1, .string (bs []), .int .i64 0, .int .i64 4, .int .i64 1, .string (bs []), .int .i64 0, .int .i64 (beginR 1 true).t, .int .i64 (beginR 1 true).id, .string (bs (beginR 1 true).c), .int .i64 (beginR 1 true).p]) (.int .u8 1)).run Tryd.prog w = .ok (.agg #[.int .i64 5, .int .i64 1, .string (bs []), .int .i64 0]) w := by intro w; kernel_rfl
    have hxI : ((⟨5, 1, [], 0⟩ : Rec)).Is := by decide
    have hxl : ((⟨5, 1, [], 0⟩ : Rec)).bytes.length ≤ 100 := by decide +kernel
    have hRx := HR2.out ((⟨5, 1, [], 0⟩ : Rec)) hxI hxl
    have hBx := fun w => rbytes_any ((⟨5, 1, [], 0⟩ : Rec)) w (by decide)
    rw [HMR.out ((⟨5, 1, [], 0⟩ : Rec)) rfl (by decide)] at hRx
    generalize hY : ((⟨5, 1, [], 0⟩ : Rec)).bytes = Y at *
    have HRx := Lib.hid hRx
    have HBx := Lib.hid hBx
    have hay1 : ¬ 9223372036854775807 < A.length + (X.length + Y.length) := by omega
    have hay2 : ¬ 9223372036854775807 < A.length + X.length + Y.length := by omega
    clear hRx hBx hY hxI
    go_wp2_with fail
    refine (HBx.out _).mono ?_
    rintro e w10 ⟨rfl, hb⟩
    have W10 := below_later (below_later W9 (below_alloc _ _)) hb
    clear hb
    go_wp2_with fail
    refine (HRx.out _ (by simp) _ (HG.out _ W10)).mono ?_
    rintro e w11 ⟨⟨_, rfl⟩ | ⟨hC, _⟩, hb⟩
    rotate_left
    · exact absurd hC (by decide)
    have W11 := below_later W10 hb
    go_wp2_with fail
    refine (is_num 18 18 _).mono ?_
    rintro e w12 ⟨rfl, rfl⟩
    go_wp2_with fail
    go_ret
    exact ⟨rfl, W11⟩
  · have hix : ∀ w, (Instr.index 57 (.agg #[.int .i64 2, .int .i64 1, .string (bs []), .int .i64 0, .int .i64 5, .int .i64 1, .string (bs []), .int .i64 0, .int .i64 4, .int .i64 1, .string (bs []), .int .i64 0, .int .i64 (beginR 1 true).t, .int .i64 (beginR 1 true).id, .string (bs (beginR 1 true).c), .int .i64 (beginR 1 true).p]) (.int .u8 2)).run Tryd.prog w = .ok (.agg #[.int .i64 4, .int .i64 1, .string (bs []), .int .i64 0]) w := by intro w; kernel_rfl
    have hxI : ((⟨4, 1, [], 0⟩ : Rec)).Is := by decide
    have hxl : ((⟨4, 1, [], 0⟩ : Rec)).bytes.length ≤ 100 := by decide +kernel
    have hRx := HR2.out ((⟨4, 1, [], 0⟩ : Rec)) hxI hxl
    have hBx := fun w => rbytes_any ((⟨4, 1, [], 0⟩ : Rec)) w (by decide)
    rw [HMR.out ((⟨4, 1, [], 0⟩ : Rec)) rfl (by decide)] at hRx
    generalize hY : ((⟨4, 1, [], 0⟩ : Rec)).bytes = Y at *
    have HRx := Lib.hid hRx
    have HBx := Lib.hid hBx
    have hay1 : ¬ 9223372036854775807 < A.length + (X.length + Y.length) := by omega
    have hay2 : ¬ 9223372036854775807 < A.length + X.length + Y.length := by omega
    clear hRx hBx hY hxI
    go_wp2_with fail
    refine (HBx.out _).mono ?_
    rintro e w10 ⟨rfl, hb⟩
    have W10 := below_later (below_later W9 (below_alloc _ _)) hb
    clear hb
    go_wp2_with fail
    refine (HRx.out _ (by simp) _ (HG.out _ W10)).mono ?_
    rintro e w11 ⟨⟨_, rfl⟩ | ⟨hC, _⟩, hb⟩
    rotate_left
    · exact absurd hC (by decide)
    have W11 := below_later W10 hb
    go_wp2_with fail
    refine (is_num 18 18 _).mono ?_
    rintro e w12 ⟨rfl, rfl⟩
    go_wp2_with fail
    go_ret
    exact ⟨rfl, W11⟩
  · have hix : ∀ w, (Instr.index 57 (.agg #[.int .i64 2, .int .i64 1, .string (bs []), .int .i64 0, .int .i64 5, .int .i64 1, .string (bs []), .int .i64 0, .int .i64 4, .int .i64 1, .string (bs []), .int .i64 0, .int .i64 (beginR 1 true).t, .int .i64 (beginR 1 true).id, .string (bs (beginR 1 true).c), .int .i64 (beginR 1 true).p]) (.int .u8 3)).run Tryd.prog w = .ok (.agg #[.int .i64 (beginR 1 true).t, .int .i64 (beginR 1 true).id, .string (bs (beginR 1 true).c), .int .i64 (beginR 1 true).p]) w := by intro w; kernel_rfl
    have hxI : (beginR 1 true).Is := begin_is 1 (by decide)
    have hxl : (beginR 1 true).bytes.length ≤ 100 := by rw [bytes_len _ hxI]; exact (by decide : (16 : Nat) ≤ 100)
    have hRx := HR2.out (beginR 1 true) hxI hxl
    have hBx := fun w => rbytes_any (beginR 1 true) w (by decide)
    rw [HM1.out, HM2.out] at hRx
    generalize hY : (beginR 1 true).bytes = Y at *
    have HRx := Lib.hid hRx
    have HBx := Lib.hid hBx
    have hay1 : ¬ 9223372036854775807 < A.length + (X.length + Y.length) := by omega
    have hay2 : ¬ 9223372036854775807 < A.length + X.length + Y.length := by omega
    clear hRx hBx hY hxI
    go_wp2_with fail
    refine (HBx.out _).mono ?_
    rintro e w10 ⟨rfl, hb⟩
    have W10 := below_later (below_later W9 (below_alloc _ _)) hb
    clear hb
    go_wp2_with fail
    refine (HRx.out _ (by simp) _ (HG.out _ W10)).mono ?_
    rintro e w11 ⟨⟨hC, _⟩ | ⟨_, v11, rfl, hrow⟩, hb⟩
    · exact absurd rfl hC
    have W11 := below_later W10 hb
    obtain ⟨rows, e1, ow, prs⟩ := hrow
    obtain ⟨qa, qb2, rfl⟩ : ∃ qa qb2, rows = [qa, qb2] := by
      match rows, e1 with
      | [qa, qb2], _ => exact ⟨qa, qb2, rfl⟩
      | [], e1 => simp at e1
      | [_], e1 => simp at e1
      | _ :: _ :: _ :: _, e1 => simp at e1
    simp only [List.map_cons, List.map_nil, List.cons.injEq, and_true] at e1
    obtain ⟨g3, cap3, rfl, _, hgl3, hc⟩ := own_open ow (by simp)
    have c9 := hc 9 (.bool false) (by
      have : sntCells [qa, qb2] = sntF qa ++ sntF qb2 := by simp [sntCells]
      rw [this, List.getElem?_append_right (by rw [sntF_len]; decide), sntF_len]
      show some (Value.bool qb2.1.cut) = _
      rw [← e1.2]
      rfl)
    simp only [List.length_cons, List.length_nil] at *
    clear hc ow prs e1 hb
    go_wp2_with fail
    go_ret
    exact ⟨rfl, W11⟩
theorem jc_said (s : ByteArray) (a b : Int) (w : World) (hs : s.size ≤ maxLen) (wa : (Lit.int .u8 a).wf = true) (wb : (Lit.int .u8 b).wf = true) (hg : w.cell? ⟨0, 0, none⟩ = some errTypeV) :
    Calls Tryd.prog 6 #[.string s, .int .u8 a, .int .u8 b] w fun e w' => e = .returned (.bool true) ∧ Below w.heap.size w w' := by
  rw [bs_of s]
  exact jc_any _ a b w (wf_u8 wa).1 (wf_u8 wa).2 (wf_u8 wb).1 (wf_u8 wb).2 (size_bs hs) hg
end Go.Proofs.YtbhdoechhfgpeaaRRRDoor
