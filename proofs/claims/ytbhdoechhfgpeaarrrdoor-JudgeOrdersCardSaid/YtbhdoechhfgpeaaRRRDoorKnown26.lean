/- conduitlaw26.known answers true, where the package errors' variable holds what it was given. Condition: that. -/
import Derived.Test.YtbhdoechhfgpeaaRRRDoorJudgeReads
import Derived.Test.YtbhdoechhfgpeaaRRRDoorJudgePlains
import Derived.Test.YtbhdoechhfgpeaaRRRDoorBuildRef
import Derived.Test.YtbhdoechhfgpeaaRRRDoorSamePairs
namespace Go.Proofs.YtbhdoechhfgpeaaRRRDoor
open Go.RowKit

theorem k26_run (x y : Bs) (hx : x.length ≤ 2147483647) (hy : y.length ≤ 2147483647) (body : Bs) :
    (JS.empty.run 0 (buildR 1 [(x, y)] body)).2 = 0 ∧ (JS.empty.run 0 (buildR 1 [(x, y)] body)).1.l = [⟨1, [(x, y)], body, true, false⟩] ∧ (JS.empty.run 0 (buildR 1 [(x, y)] body)).1.frm = [0] ∧ (JS.empty.run 0 (buildR 1 [(x, y)] body)).1.ids 1 = some ⟨0, 3, pairB [(x, y)]⟩ := by
  obtain ⟨h1, h2, h3, h4⟩ := run_whole JS.empty 1 0 (by decide) (fun p hp => by cases hp) [(x, y)] body (one_pair x y hx hy)
  exact ⟨h1, by rw [h2]; rfl, by rw [h3]; rfl, h4⟩
theorem k26_more (x y : Bs) (hx : x.length ≤ 2147483647) (hy : y.length ≤ 2147483647) (body : Bs) : (JS.empty.run 0 (buildR 1 [(x, y)] body ++ [⟨5, 1, [], 0⟩])).2 = 18 := by
  obtain ⟨h1, h2, h3, h4⟩ := k26_run x y hx hy body
  rw [run_append _ _ _ _ h1, run_cons]
  have := goes_step _ [] ⟨1, [(x, y)], body, true, false⟩ 3 (pairB [(x, y)]) ⟨5, 1, [], 0⟩ (0 + (allBytes (buildR 1 [(x, y)] body)).length) (by decide) (by decide) h2 h4
  have hg : (goS ⟨1, [(x, y)], body, true, false⟩ 3 (pairB [(x, y)]) ⟨5, 1, [], 0⟩).2.2.2 = 18 := by simp [goS]
  rw [hg] at this
  simp only [show ¬ ((18 : Int) = 0) by decide, if_false] at this
  rw [this]
  simp
theorem k26_two (x y : Bs) (hx : x.length ≤ 2147483647) (hy : y.length ≤ 2147483647) (body : Bs) :
    (JS.empty.run 0 (buildR 1 [(x, y)] body ++ buildR 1 [(x, y)] body)).2 = 0 ∧ (JS.empty.run 0 (buildR 1 [(x, y)] body ++ buildR 1 [(x, y)] body)).1.l = [⟨1, [(x, y)], body, true, false⟩, ⟨1, [(x, y)], body, true, false⟩] ∧ (JS.empty.run 0 (buildR 1 [(x, y)] body ++ buildR 1 [(x, y)] body)).1.frm = [0, (((allBytes (buildR 1 [(x, y)] body)).length : Nat) : Int)] := by
  obtain ⟨h1, h2, h3, h4⟩ := k26_run x y hx hy body
  rw [run_append _ _ _ _ h1]
  obtain ⟨a1, a2, a3, _⟩ := run_whole (JS.empty.run 0 (buildR 1 [(x, y)] body)).1 1 (0 + (allBytes (buildR 1 [(x, y)] body)).length) (by decide) (fun p hp => by rw [h4] at hp; cases hp; rw [h2]; exact .inl rfl) [(x, y)] body (one_pair x y hx hy)
  exact ⟨a1, by rw [a2, h2]; rfl, by rw [a3, h3]; simp⟩
theorem k26_reuse (n : Nat) (s : Snt) (hs : s.id = 1) : reuseRun [] (fun _ => none) ((([s, s].map (·.id)).zip [0, (n : Int)])) = false ∧ reuseRun [(1, (n : Int))] (fun _ => none) ((([s, s].map (·.id)).zip [0, (n : Int)])) = true := by
  simp [reuseRun, reuseOk, marked, hs]

set_option maxRecDepth 100000 in
set_option maxHeartbeats 8000000 in
theorem known26 (w : World) (hg : w.cell? ⟨0, 0, none⟩ = some errTypeV) : Calls Tryd.prog 14 #[] w fun e w' => e = .returned (.bool true) ∧ Below w.heap.size w w' := by
  have hg0 : 0 < w.heap.size := World.block_lt_of_cell? w _ hg
  have hg' : ∀ w', Below w.heap.size w w' → w'.cell? ⟨0, 0, none⟩ = some errTypeV := fun w' hb => by rw [hb.cell hg0]; exact hg
  have HG := Lib.hid hg'
  clear hg hg'
  have hI := build_is 1 (by decide) [([97], [98])] [120, 121]
  have hbl := build_bytes 1 (by decide) [([97], [98])] [120, 121]
  have hpl : (pairB [([97], [98])]).length = 4 := by kernel_rfl
  rw [hpl] at hbl
  obtain ⟨r1, r2, r3, _⟩ := k26_run [97] [98] (by decide) (by decide) [120, 121]
  have rm := k26_more [97] [98] (by decide) (by decide) [120, 121]
  obtain ⟨t1, t2, t3⟩ := k26_two [97] [98] (by decide) (by decide) [120, 121]
  have hI2 : ∀ x ∈ buildR 1 [([97], [98])] [120, 121] ++ buildR 1 [([97], [98])] [120, 121], x.Is := fun x hx => (List.mem_append.1 hx).elim (hI x) (hI x)
  have hI3 : ∀ x ∈ buildR 1 [([97], [98])] [120, 121] ++ [⟨5, 1, [], 0⟩], x.Is := fun x hx => (List.mem_append.1 hx).elim (hI x) (fun h => by simp at h; subst h; decide)
  have hbl2 : (allBytes (buildR 1 [([97], [98])] [120, 121])).length ≤ 1000 := by simp at hbl; omega
  have hX : (allBytes [(⟨5, 1, [], 0⟩ : Rec)]) = [1, 5, 0, 1, 0, 0, 0, 0] := by kernel_rfl
  obtain ⟨u1, u2⟩ := k26_reuse (allBytes (buildR 1 [([97], [98])] [120, 121])).length ⟨1, [([97], [98])], [120, 121], true, false⟩ rfl
  have hB := fun (v : Value) (w' : World) hP => rbuild_any 1 [([97], [98])] [120, 121] v w' hP (by rw [hpl]; decide) (by decide)
  have hA := fun v w' hR => all_any (buildR 1 [([97], [98])] [120, 121]) v w' hR hI (by omega)
  have hR1 := fun w' hg => jRead_any (buildR 1 [([97], [98])] [120, 121]) w' hI (by omega) hg
  have hR2 := fun w' hg => jRead_any (buildR 1 [([97], [98])] [120, 121] ++ [⟨5, 1, [], 0⟩]) w' hI3 (by rw [allBytes_append, List.length_append, hX]; simp only [List.length_cons, List.length_nil]; omega) hg
  have hT2 := fun w' hg => jRight_any (buildR 1 [([97], [98])] [120, 121] ++ buildR 1 [([97], [98])] [120, 121]) w' hI2 (by rw [allBytes_append, List.length_append]; omega) hg
  have hU := fun ends v w' hg hR => jReuse_any (buildR 1 [([97], [98])] [120, 121] ++ buildR 1 [([97], [98])] [120, 121]) ends v w' hI2 (by rw [allBytes_append, List.length_append]; omega) hg hR (by rw [t2]; intro s hs; simp at hs; subst hs; decide) (by rw [t2]; simp)
  have hT0 := fun w' hg => jRight_any [] w' (by simp) (by simp [allBytes]) hg
  rw [r1, r2] at hR1
  rw [rm, allBytes_append, hX] at hR2
  rw [t1, allBytes_append] at hT2
  rw [t1, t2, t3, allBytes_append] at hU
  clear hbl hpl hI hI2 hI3 r1 r2 r3 rm t1 t2 t3 hX
  generalize hS : allBytes (buildR 1 [([97], [98])] [120, 121]) = S at *
  generalize hRR : buildR 1 [([97], [98])] [120, 121] = RR at *
  have hU1 := fun v w' hg hR => hU [] v w' hg hR
  have hU2 := fun v w' hg hR => hU [(1, (S.length : Int))] v w' hg hR
  rw [u1] at hU1
  rw [u2] at hU2
  have HB := Lib.hid hB
  have HA := Lib.hid hA
  have HR1 := Lib.hid hR1
  have HR2 := Lib.hid hR2
  have HT2 := Lib.hid hT2
  have HU1 := Lib.hid hU1
  have HU2 := Lib.hid hU2
  have HT0 := Lib.hid hT0
  clear hB hA hR1 hR2 hT2 hU hU1 hU2 hT0 hS hRR u1 u2
  go_enter Tryd.func14, Tryd.ntmps14
  go_wp2_with fail
  have hpr : ∀ w', Below w.heap.size w w' → Below (w.alloc (.cells #[.string (bs [97]), .string (bs [98])] 42)).heap.size (w.alloc (.cells #[.string (bs [97]), .string (bs [98])] 42)) w' → Reads w' (.slice (some ⟨w.heap.size, 0, none⟩) 1 1) 2 ([([97], [98])] : List (Bs × Bs)).length (([([97], [98])] : List (Bs × Bs)).flatMap pairCells) := fun w' _ hb => own_reads (own_kept (row_pair w [97] [98]).1 hb)
  have HPR := Lib.hid hpr
  have hBy := fun w => rbytes_any ⟨5, 1, [], 0⟩ w (by decide)
  rw [show (⟨5, 1, [], 0⟩ : Rec).bytes = [1, 5, 0, 1, 0, 0, 0, 0] by kernel_rfl] at hBy
  have HBy := Lib.hid hBy
  clear hpr hBy
  have W0 : Below w.heap.size w (w.alloc (.cells #[.string (bs [97]), .string (bs [98])] 42)) := below_alloc _ _
  generalize hu0 : w.alloc (.cells #[.string (bs [97]), .string (bs [98])] 42) = u0 at *
  refine (HB.out _ u0 (fun w' hb => rpairs_any [([97], [98])] _ w' (HPR.out w' (below_later W0 hb) hb) (by decide) (by intro p hp; simp at hp; subst hp; decide))).mono ?_
  rintro e w1 ⟨v1, rfl, o1, hb⟩
  have U1 := hb
  clear hb
  go_wp2_with fail
  refine (HA.out _ _ (own_reads o1)).mono ?_
  rintro e w2 ⟨rfl, hb⟩
  have U2 := below_later U1 hb
  clear hb U1 o1
  go_wp2_with fail
  refine (HR1.out _ (HG.out _ (below_later W0 U2))).mono ?_
  rintro e w3 ⟨⟨hC, _⟩ | ⟨_, v3, rfl, hrow⟩, hb⟩
  · exact absurd rfl hC
  have U3 := below_later U2 hb
  clear hb U2
  go_wp2_with fail
  refine (HBy.out _).mono ?_
  rintro e w4 ⟨rfl, hb⟩
  have U4 := below_later U3 hb
  have hrow4 := hrow.keeps hb
  clear hb U3 hrow
  have hs8 : ¬ 9223372036854775807 < S.length + 8 := by omega
  have hss : ¬ 9223372036854775807 < S.length + S.length := by omega
  go_wp2_with fail
  refine (HR2.out _ (HG.out _ (below_later W0 U4))).mono ?_
  rintro e w5 ⟨⟨_, rfl⟩ | ⟨hC, _⟩, hb⟩
  rotate_left
  · exact absurd hC (by decide)
  have U5 := below_later U4 hb
  have hrow5 := hrow4.keeps hb
  clear hb U4 hrow4
  obtain ⟨rows, e1, ow, prs⟩ := hrow5
  obtain ⟨q, rfl⟩ : ∃ q, rows = [q] := by
    match rows, e1 with
    | [q], _ => exact ⟨q, rfl⟩
    | [], e1 => simp at e1
    | _ :: _ :: _, e1 => simp at e1
  simp only [List.map_cons, List.map_nil, List.cons.injEq, and_true] at e1
  have hp5 := prs q (by simp)
  obtain ⟨qs, pv⟩ := q
  simp only at e1 hp5
  subst e1
  obtain ⟨g, cap, rfl, _, hgl, hc⟩ := own_open ow (by simp)
  have c0 := hc 0 _ rfl
  have c1 := hc 1 _ rfl
  have c2 := hc 2 _ rfl
  have c3 := hc 3 _ rfl
  have c4 := hc 4 _ rfl
  obtain ⟨pa, pc, rfl⟩ := own_slice hp5
  clear hc ow prs
  simp only [List.length_cons, List.length_nil] at *
  go_wp2_with fail
  refine (samep_any [([97], [98])] _ _ w5 (by decide) (own_reads hp5) (HPR.out _ (below_later W0 U5) U5)).mono ?_
  rintro e w6 ⟨rfl, hb⟩
  have U6 := below_later U5 hb
  clear hb U5 c0 c1 c2 c3 c4 hgl hp5
  go_wp2_with fail
  refine (is_num 18 18 _).mono ?_
  rintro e w7 ⟨rfl, rfl⟩
  go_wp2_with fail
  refine (HT2.out _ (HG.out _ (below_later W0 U6))).mono ?_
  rintro e w8 ⟨rfl, hb⟩
  have U8 := below_later U6 hb
  clear hb U6
  go_wp2_with fail
  refine (HU1.out _ _ (HG.out _ (below_later W0 U8)) ⟨rfl, by simp, none, 0, rfl, by simp, by simp [maxLen], by simp⟩).mono ?_
  rintro e w9 ⟨rfl, hb⟩
  have U9 := below_later U8 hb
  clear hb U8
  go_wp2_with fail
  have hmr := own_reads (Rg.row_new w9 69 2 1 #[.int .i64 1, .int .i64 (S.length : Int)] rfl (by simp [maxLen])).1
  have U10 := below_later U9 (below_alloc w9 (.cells #[.int .i64 1, .int .i64 (S.length : Int)] 69))
  refine (HU2.out _ _ (HG.out _ (below_later W0 U10)) hmr).mono ?_
  rintro e w11 ⟨rfl, hb⟩
  have U11 := below_later U10 hb
  clear hb U10 U9 hmr
  go_wp2_with fail
  refine (HT0.out _ (HG.out _ (below_later W0 U11))).mono ?_
  rintro e w12 ⟨rfl, hb⟩
  have U12 := below_later U11 hb
  go_wp2_with fail
  go_ret
  exact ⟨rfl, below_later W0 U12⟩
end Go.Proofs.YtbhdoechhfgpeaaRRRDoor
