/- conduitlaw26.known answers true, where the package errors' variable holds what it was given. Condition: that. And what follows from it. -/
import Derived.Test.YtniflggmfegnfaaDoorJudgeReads
import Derived.Test.YtniflggmfegnfaaDoorJudgePlains
import Derived.Test.YtniflggmfegnfaaDoorBuildRef
import Derived.Test.YtniflggmfegnfaaDoorSamePairs
import Derived.Test.YtniflggmfegnfaaDoorRgOwn
import Derived.Test.YtniflggmfegnfaaDoorRecRow
import Derived.Test.YtniflggmfegnfaaDoorJudgeHeap
/- conduitlaw26.known answers true, where the package errors' variable holds what it was given. Condition: that. -/
namespace Go.Proofs.YtniflggmfegnfaaDoor
open Go.RowKit

theorem k26_run (x y : Bs) (hx : x.length ≤ 2147483647) (hy : y.length ≤ 2147483647) (body : Bs) :
    (JS.empty.run 0 (buildR 1 [(x, y)] body)).2 = 0 ∧ (JS.empty.run 0 (buildR 1 [(x, y)] body)).1.l = [⟨1, [(x, y)], body, true, false⟩] ∧ (JS.empty.run 0 (buildR 1 [(x, y)] body)).1.frm = [0] ∧ (JS.empty.run 0 (buildR 1 [(x, y)] body)).1.ids 1 = some ⟨0, 3, pairB [(x, y)]⟩ := by
  obtain ⟨h1, h2, h3, h4⟩ := run_whole JS.empty 1 0 (by decide) (fun p hp => by cases hp) [(x, y)] body (one_pair x y hx hy)
  exact ⟨h1, by rw [h2]; rfl, by rw [h3]; rfl, h4⟩
theorem k26_more (x y : Bs) (hx : x.length ≤ 2147483647) (hy : y.length ≤ 2147483647) (body : Bs) : (JS.empty.run 0 (buildR 1 [(x, y)] body ++ [⟨5, 1, [], 0⟩])).2 = 18 := by
  obtain ⟨h1, h2, h3, h4⟩ := k26_run x y hx hy body
  rw [run_append _ _ _ _ h1, run_cons]
  have := goes_step _ [] ⟨1, [(x, y)], body, true, false⟩ 3 (pairB [(x, y)]) ⟨5, 1, [], 0⟩ (0 + (allBytes (buildR 1 [(x, y)] body)).length) (by decide) (by decide) h2 h4
  have hg : (goS ⟨1, [(x, y)], body, true, false⟩ 3 (pairB [(x, y)]) ⟨5, 1, [], 0⟩).2.2.2 = 18 := by simp [goS]
  rw [hg] at this
  simp only [show ¬ ((18 : Int) = 0) by decide, if_false] at this
  rw [this]
  simp
theorem k26_two (x y : Bs) (hx : x.length ≤ 2147483647) (hy : y.length ≤ 2147483647) (body : Bs) :
    (JS.empty.run 0 (buildR 1 [(x, y)] body ++ buildR 1 [(x, y)] body)).2 = 0 ∧ (JS.empty.run 0 (buildR 1 [(x, y)] body ++ buildR 1 [(x, y)] body)).1.l = [⟨1, [(x, y)], body, true, false⟩, ⟨1, [(x, y)], body, true, false⟩] ∧ (JS.empty.run 0 (buildR 1 [(x, y)] body ++ buildR 1 [(x, y)] body)).1.frm = [0, (((allBytes (buildR 1 [(x, y)] body)).length : Nat) : Int)] := by
  obtain ⟨h1, h2, h3, h4⟩ := k26_run x y hx hy body
  rw [run_append _ _ _ _ h1]
  obtain ⟨a1, a2, a3, _⟩ := run_whole (JS.empty.run 0 (buildR 1 [(x, y)] body)).1 1 (0 + (allBytes (buildR 1 [(x, y)] body)).length) (by decide) (fun p hp => by rw [h4] at hp; cases hp; rw [h2]; exact .inl rfl) [(x, y)] body (one_pair x y hx hy)
  exact ⟨a1, by rw [a2, h2]; rfl, by rw [a3, h3]; simp⟩
theorem k26_reuse (n : Nat) (s : Snt) (hs : s.id = 1) : reuseRun [] (fun _ => none) ((([s, s].map (·.id)).zip [0, (n : Int)])) = false ∧ reuseRun [(1, (n : Int))] (fun _ => none) ((([s, s].map (·.id)).zip [0, (n : Int)])) = true := by
  simp [reuseRun, reuseOk, marked, hs]

set_option maxRecDepth 100000 in
set_option maxHeartbeats 8000000 in
theorem known26 (w : World) (hg : w.cell? ⟨0, 0, none⟩ = some errTypeV) : Calls Tryd.prog 4 #[] w fun e w' => e = .returned (.bool true) ∧ Below w.heap.size w w' := by
  have hg0 : 0 < w.heap.size := World.block_lt_of_cell? w _ hg
  have hg' : ∀ w', Below w.heap.size w w' → w'.cell? ⟨0, 0, none⟩ = some errTypeV := fun w' hb => by rw [hb.cell hg0]; exact hg
  have HG := Lib.hid hg'
  clear hg hg'
  have hI := build_is 1 (by decide) [([97], [98])] [120, 121]
  have hbl := build_bytes 1 (by decide) [([97], [98])] [120, 121]
  have hpl : (pairB [([97], [98])]).length = 4 := by kernel_rfl
  rw [hpl] at hbl
  obtain ⟨r1, r2, r3, _⟩ := k26_run [97] [98] (by decide) (by decide) [120, 121]
  have rm := k26_more [97] [98] (by decide) (by decide) [120, 121]
  obtain ⟨t1, t2, t3⟩ := k26_two [97] [98] (by decide) (by decide) [120, 121]
  have hI2 : ∀ x ∈ buildR 1 [([97], [98])] [120, 121] ++ buildR 1 [([97], [98])] [120, 121], x.Is := fun x hx => (List.mem_append.1 hx).elim (hI x) (hI x)
  have hI3 : ∀ x ∈ buildR 1 [([97], [98])] [120, 121] ++ [⟨5, 1, [], 0⟩], x.Is := fun x hx => (List.mem_append.1 hx).elim (hI x) (fun h => by simp at h; subst h; decide)
  have hbl2 : (allBytes (buildR 1 [([97], [98])] [120, 121])).length ≤ 1000 := by simp at hbl; omega
  have hX : (allBytes [(⟨5, 1, [], 0⟩ : Rec)]) = [1, 5, 0, 1, 0, 0, 0, 0] := by kernel_rfl
  obtain ⟨u1, u2⟩ := k26_reuse (allBytes (buildR 1 [([97], [98])] [120, 121])).length ⟨1, [([97], [98])], [120, 121], true, false⟩ rfl
  have hB := fun (v : Value) (w' : World) hP => rbuild_any 1 [([97], [98])] [120, 121] v w' hP (by rw [hpl]; decide) (by decide)
  have hA := fun v w' hR => all_any (buildR 1 [([97], [98])] [120, 121]) v w' hR hI (by omega)
  have hR1 := fun w' hg => jRead_any (buildR 1 [([97], [98])] [120, 121]) w' hI (by omega) hg
  have hR2 := fun w' hg => jRead_any (buildR 1 [([97], [98])] [120, 121] ++ [⟨5, 1, [], 0⟩]) w' hI3 (by rw [allBytes_append, List.length_append, hX]; simp only [List.length_cons, List.length_nil]; omega) hg
  have hT2 := fun w' hg => jRight_any (buildR 1 [([97], [98])] [120, 121] ++ buildR 1 [([97], [98])] [120, 121]) w' hI2 (by rw [allBytes_append, List.length_append]; omega) hg
  have hU := fun ends v w' hg hR => jReuse_any (buildR 1 [([97], [98])] [120, 121] ++ buildR 1 [([97], [98])] [120, 121]) ends v w' hI2 (by rw [allBytes_append, List.length_append]; omega) hg hR (by rw [t2]; intro s hs; simp at hs; subst hs; decide) (by rw [t2]; simp)
  have hT0 := fun w' hg => jRight_any [] w' (by simp) (by simp [allBytes]) hg
  rw [r1, r2] at hR1
  rw [rm, allBytes_append, hX] at hR2
  rw [t1, allBytes_append] at hT2
  rw [t1, t2, t3, allBytes_append] at hU
  clear hbl hpl hI hI2 hI3 r1 r2 r3 rm t1 t2 t3 hX
  generalize hS : allBytes (buildR 1 [([97], [98])] [120, 121]) = S at *
  generalize hRR : buildR 1 [([97], [98])] [120, 121] = RR at *
  have hU1 := fun v w' hg hR => hU [] v w' hg hR
  have hU2 := fun v w' hg hR => hU [(1, (S.length : Int))] v w' hg hR
  rw [u1] at hU1
  rw [u2] at hU2
  have HB := Lib.hid hB
  have HA := Lib.hid hA
  have HR1 := Lib.hid hR1
  have HR2 := Lib.hid hR2
  have HT2 := Lib.hid hT2
  have HU1 := Lib.hid hU1
  have HU2 := Lib.hid hU2
  have HT0 := Lib.hid hT0
  clear hB hA hR1 hR2 hT2 hU hU1 hU2 hT0 hS hRR u1 u2
  go_enter Tryd.func4, Tryd.ntmps4
  go_wp2_with fail
  have hpr : ∀ w', Below w.heap.size w w' → Below (w.alloc (.cells #[.string (bs [97]), .string (bs [98])] 29)).heap.size (w.alloc (.cells #[.string (bs [97]), .string (bs [98])] 29)) w' → Reads w' (.slice (some ⟨w.heap.size, 0, none⟩) 1 1) 2 ([([97], [98])] : List (Bs × Bs)).length (([([97], [98])] : List (Bs × Bs)).flatMap pairCells) := fun w' _ hb => own_reads (own_kept (row_pair w [97] [98]).1 hb)
  have HPR := Lib.hid hpr
  have hBy := fun w => rbytes_any ⟨5, 1, [], 0⟩ w (by decide)
  rw [show (⟨5, 1, [], 0⟩ : Rec).bytes = [1, 5, 0, 1, 0, 0, 0, 0] by kernel_rfl] at hBy
  have HBy := Lib.hid hBy
  clear hpr hBy
  have W0 : Below w.heap.size w (w.alloc (.cells #[.string (bs [97]), .string (bs [98])] 29)) := below_alloc _ _
  generalize hu0 : w.alloc (.cells #[.string (bs [97]), .string (bs [98])] 29) = u0 at *
  refine (HB.out _ u0 (fun w' hb => rpairs_any [([97], [98])] _ w' (HPR.out w' (below_later W0 hb) hb) (by decide) (by intro p hp; simp at hp; subst hp; decide))).mono ?_
  rintro e w1 ⟨v1, rfl, o1, hb⟩
  have U1 := hb
  clear hb
  go_wp2_with fail
  refine (HA.out _ _ (own_reads o1)).mono ?_
  rintro e w2 ⟨rfl, hb⟩
  have U2 := below_later U1 hb
  clear hb U1 o1
  go_wp2_with fail
  refine (HR1.out _ (HG.out _ (below_later W0 U2))).mono ?_
  rintro e w3 ⟨⟨hC, _⟩ | ⟨_, v3, rfl, hrow⟩, hb⟩
  · exact absurd rfl hC
  have U3 := below_later U2 hb
  clear hb U2
  go_wp2_with fail
  refine (HBy.out _).mono ?_
  rintro e w4 ⟨rfl, hb⟩
  have U4 := below_later U3 hb
  have hrow4 := hrow.keeps hb
  clear hb U3 hrow
  have hs8 : ¬ 9223372036854775807 < S.length + 8 := by omega
  have hss : ¬ 9223372036854775807 < S.length + S.length := by omega
  go_wp2_with fail
  refine (HR2.out _ (HG.out _ (below_later W0 U4))).mono ?_
  rintro e w5 ⟨⟨_, rfl⟩ | ⟨hC, _⟩, hb⟩
  rotate_left
  · exact absurd hC (by decide)
  have U5 := below_later U4 hb
  have hrow5 := hrow4.keeps hb
  clear hb U4 hrow4
  obtain ⟨rows, e1, ow, prs⟩ := hrow5
  obtain ⟨q, rfl⟩ : ∃ q, rows = [q] := by
    match rows, e1 with
    | [q], _ => exact ⟨q, rfl⟩
    | [], e1 => simp at e1
    | _ :: _ :: _, e1 => simp at e1
  simp only [List.map_cons, List.map_nil, List.cons.injEq, and_true] at e1
  have hp5 := prs q (by simp)
  obtain ⟨qs, pv⟩ := q
  simp only at e1 hp5
  subst e1
  obtain ⟨g, cap, rfl, _, hgl, hc⟩ := own_open ow (by simp)
  have c0 := hc 0 _ rfl
  have c1 := hc 1 _ rfl
  have c2 := hc 2 _ rfl
  have c3 := hc 3 _ rfl
  have c4 := hc 4 _ rfl
  obtain ⟨pa, pc, rfl⟩ := own_slice hp5
  clear hc ow prs
  simp only [List.length_cons, List.length_nil] at *
  go_wp2_with fail
  refine (samep_any [([97], [98])] _ _ w5 (by decide) (own_reads hp5) (HPR.out _ (below_later W0 U5) U5)).mono ?_
  rintro e w6 ⟨rfl, hb⟩
  have U6 := below_later U5 hb
  clear hb U5 c0 c1 c2 c3 c4 hgl hp5
  go_wp2_with fail
  refine (is_num 18 18 _).mono ?_
  rintro e w7 ⟨rfl, rfl⟩
  go_wp2_with fail
  refine (HT2.out _ (HG.out _ (below_later W0 U6))).mono ?_
  rintro e w8 ⟨rfl, hb⟩
  have U8 := below_later U6 hb
  clear hb U6
  go_wp2_with fail
  refine (HU1.out _ _ (HG.out _ (below_later W0 U8)) ⟨rfl, by simp, none, 0, rfl, by simp, by simp [maxLen], by simp⟩).mono ?_
  rintro e w9 ⟨rfl, hb⟩
  have U9 := below_later U8 hb
  clear hb U8
  go_wp2_with fail
  have hmr := own_reads (Rg.row_new w9 49 2 1 #[.int .i64 1, .int .i64 (S.length : Int)] rfl (by simp [maxLen])).1
  have U10 := below_later U9 (below_alloc w9 (.cells #[.int .i64 1, .int .i64 (S.length : Int)] 49))
  refine (HU2.out _ _ (HG.out _ (below_later W0 U10)) hmr).mono ?_
  rintro e w11 ⟨rfl, hb⟩
  have U11 := below_later U10 hb
  clear hb U10 U9 hmr
  go_wp2_with fail
  refine (HT0.out _ (HG.out _ (below_later W0 U11))).mono ?_
  rintro e w12 ⟨rfl, hb⟩
  have U12 := below_later U11 hb
  go_wp2_with fail
  go_ret
  exact ⟨rfl, below_later W0 U12⟩
end Go.Proofs.YtniflggmfegnfaaDoor

/- Requests of unlike ids, their records mixed: what a judge reads of them. No program in sight. -/
namespace Go.Proofs.YtniflggmfegnfaaDoor

def mixL (i : Nat) (b : Bs) : List Rec := buildR ((i : Int) + 1) [([110], b)] b
def mixAll (Bd : List Bs) : List (List Rec) := Bd.mapIdx mixL
def atI (R : List (List Rec)) (i : Int) : List Rec := if 1 ≤ i then R.getD (i - 1).toNat [] else []
def sumF (f : List Rec → Nat) (R : List (List Rec)) : Nat := (R.map f).sum
abbrev sumL (R : List (List Rec)) : Nat := sumF List.length R
abbrev sumB (R : List (List Rec)) : Nat := sumF (fun l => (allBytes l).length) R

structure MixInv (Bd : List Bs) (E : List Rec) (R : List (List Rec)) : Prop where
  len : R.length = Bd.length
  all : ∀ i : Int, (E.filter fun x => x.id == i) ++ atI R i = atI (mixAll Bd) i
  bytes : (allBytes E).length + sumB R = sumB (mixAll Bd)

theorem mixAll_len (Bd : List Bs) : (mixAll Bd).length = Bd.length := by simp [mixAll]
theorem mixAll_at (Bd : List Bs) (k : Nat) (h : k < Bd.length) : (mixAll Bd)[k]? = some (mixL k Bd[k]) := by
  simp [mixAll, h]
theorem atI_at (R : List (List Rec)) (k : Nat) (h : k < R.length) : atI R ((k : Int) + 1) = R[k] := by
  unfold atI
  rw [if_pos (by omega), show ((k : Int) + 1 - 1).toNat = k by omega, List.getD_eq_getElem?_getD, List.getElem?_eq_getElem h]
  rfl
theorem atI_out (R : List (List Rec)) (i : Int) (h : i < 1 ∨ (R.length : Int) < i) : atI R i = [] := by
  unfold atI
  split
  · rw [List.getD_eq_getElem?_getD, List.getElem?_eq_none (by omega)]
    rfl
  · rfl
theorem atI_mix (Bd : List Bs) (k : Nat) (h : k < Bd.length) : atI (mixAll Bd) ((k : Int) + 1) = mixL k Bd[k] := by
  have h2 : k < (mixAll Bd).length := by rw [mixAll_len]; exact h
  rw [atI_at _ k h2]
  have := mixAll_at Bd k h
  rw [List.getElem?_eq_getElem h2] at this
  exact Option.some.inj this
/-- A number within. -/
theorem num_in {n : Nat} {i : Int} (h1 : 1 ≤ i) (h2 : i ≤ n) : ∃ k : Nat, k < n ∧ i = (k : Int) + 1 := ⟨(i - 1).toNat, by omega, by omega⟩
theorem mixL_ids (k : Nat) (b : Bs) : ∀ x ∈ mixL k b, x.id = (k : Int) + 1 := by
  intro x hx
  unfold mixL at hx
  rw [build_eq] at hx
  rcases List.mem_cons.1 hx with rfl | hx
  · exact (rb_begin _).2.2.2.2
  · exact (tail_ids _ _ _ x hx).1
theorem mix_in {Bd : List Bs} {i : Int} {x : Rec} (h : x ∈ atI (mixAll Bd) i) : ∃ k : Nat, ∃ h : k < Bd.length, i = (k : Int) + 1 ∧ x ∈ mixL k Bd[k] := by
  by_cases hi : i < 1 ∨ (Bd.length : Int) < i
  · rw [atI_out _ i (by rw [mixAll_len]; exact hi)] at h
    cases h
  · obtain ⟨k, hk, rfl⟩ := num_in (n := Bd.length) (i := i) (by omega) (by omega)
    rw [atI_mix Bd k hk] at h
    exact ⟨k, hk, rfl, h⟩
theorem mix_ids (Bd : List Bs) (i : Int) : ∀ x ∈ atI (mixAll Bd) i, x.id = i := by
  intro x hx
  obtain ⟨k, hk, rfl, h⟩ := mix_in hx
  exact mixL_ids k _ x h

theorem sumF_set (f : List Rec → Nat) : ∀ (R : List (List Rec)) (k : Nat) (h : k < R.length) (X : List Rec), sumF f (R.set k X) + f R[k] = sumF f R + f X
  | [], k, h, X => absurd h (by simp)
  | r :: R, 0, h, X => by simp [sumF]; omega
  | r :: R, k + 1, h, X => by
    have := sumF_set f R k (by simpa using h) X
    simp [sumF] at this ⊢
    omega
theorem sumF_snoc (f : List Rec → Nat) (R : List (List Rec)) (X : List Rec) : sumF f (R ++ [X]) = sumF f R + f X := by simp [sumF]
theorem sumF_le (f : List Rec → Nat) (c : Nat) : ∀ (R : List (List Rec)), (∀ X ∈ R, f X ≤ c) → sumF f R ≤ c * R.length
  | [], _ => by simp [sumF]
  | r :: R, h => by
    have h1 := h r (by simp)
    have h2 := sumF_le f c R (fun X hX => h X (by simp [hX]))
    simp [sumF] at h2 ⊢
    rw [Nat.mul_add]
    omega
theorem sumL_zero : ∀ (R : List (List Rec)), sumL R = 0 → ∀ X ∈ R, X = []
  | [], _ => by simp
  | r :: R, h => by
    simp [sumL, sumF] at h
    intro X hX
    rcases List.mem_cons.1 hX with rfl | hX
    · exact h.1
    · exact sumL_zero R (by simpa [sumL, sumF] using h.2) X hX
theorem sumL_pos (R : List (List Rec)) (h : 0 < sumL R) : ∃ k, ∃ hk : k < R.length, R[k] ≠ [] := by
  induction R with
  | nil => simp [sumL, sumF] at h
  | cons r R ih =>
    by_cases hr : r = []
    · subst hr
      obtain ⟨k, hk, hx⟩ := ih (by simpa [sumL, sumF] using h)
      exact ⟨k + 1, by simpa using hk, by simpa using hx⟩
    · exact ⟨0, by simp, hr⟩

theorem mix_start (Bd : List Bs) : MixInv Bd [] (mixAll Bd) := ⟨mixAll_len Bd, fun i => rfl, by simp [allBytes]⟩
theorem mix_step {Bd : List Bs} {E : List Rec} {R : List (List Rec)} (h : MixInv Bd E R) (k : Nat) (hk : k < R.length) (x : Rec) (X : List Rec) (hx : R[k] = x :: X) : MixInv Bd (E ++ [x]) (R.set k X) := by
  have hid : x.id = (k : Int) + 1 := by
    have hm : x ∈ atI (mixAll Bd) ((k : Int) + 1) := by
      rw [← h.all, atI_at R k hk, hx]
      simp
    exact mix_ids Bd _ x hm
  refine ⟨by rw [List.length_set]; exact h.len, fun i => ?_, ?_⟩
  · rw [← h.all i, List.filter_append]
    by_cases e : i = (k : Int) + 1
    · subst e
      rw [atI_at R k hk, atI_at (R.set k X) k (by simpa using hk), hx]
      simp [hid]
    · have e2 : atI (R.set k X) i = atI R i := by
        unfold atI
        split
        · rw [List.getD_eq_getElem?_getD, List.getD_eq_getElem?_getD, List.getElem?_set_ne (by omega)]
        · rfl
      rw [e2, List.filter_cons_of_neg (by simpa [hid] using fun h => e h.symm)]
      simp
  · have h1 := sumF_set (fun l => (allBytes l).length) R k hk X
    have h2 := h.bytes
    rw [hx] at h1
    rw [allBytes_append, List.length_append]
    simp only [allBytes_cons, List.length_append] at h1 ⊢
    simp [allBytes] at h1 h2 ⊢
    unfold sumB at *
    simp [allBytes] at *
    omega
theorem mix_left {R : List (List Rec)} (k : Nat) (hk : k < R.length) (x : Rec) (X : List Rec) (hx : R[k] = x :: X) : sumL (R.set k X) + 1 = sumL R := by
  have := sumF_set List.length R k hk X
  rw [hx] at this
  simp at this
  unfold sumL
  omega
theorem mix_end {Bd : List Bs} {E : List Rec} {R : List (List Rec)} (h : MixInv Bd E R) (h0 : sumL R = 0) : ∀ i : Int, (E.filter fun x => x.id == i) = atI (mixAll Bd) i := by
  intro i
  rw [← h.all i]
  have : atI R i = [] := by
    unfold atI
    split
    · rw [List.getD_eq_getElem?_getD]
      cases hg : R[(i - 1).toNat]? with
      | none => rfl
      | some X => exact sumL_zero R h0 X (List.mem_of_getElem? hg)
    · rfl
  rw [this, List.append_nil]
theorem lenB_le4 (n : Int) : (lenB n).length ≤ 4 := by unfold lenB; split <;> simp
theorem mixP_le (b : Bs) : (pairB [([110], b)]).length ≤ 9 + b.length := by
  have h1 := lenB_le4 b.length
  have h2 := lenB_le4 ([110] : Bs).length
  simp only [pairB, List.flatMap_cons, List.flatMap_nil, List.append_nil, List.length_append, List.length_cons, List.length_nil] at h2 ⊢
  omega
theorem mixL_bytes (k : Nat) (hk : k ≤ 100) (b : Bs) (hb : b.length ≤ 700) : (allBytes (mixL k b)).length ≤ 30000 := by
  have h1 := build_bytes ((k : Int) + 1) (by omega) [([110], b)] b
  have h2 := mixP_le b
  unfold mixL
  omega
theorem mixL_len (k : Nat) (b : Bs) (hb : b.length ≤ 700) : (mixL k b).length ≤ 3000 := by
  have lA := splitR_len 4 ((k : Int) + 1) (pairB [([110], b)])
  have lB := splitR_len 5 ((k : Int) + 1) b
  have h2 := mixP_le b
  simp [mixL, buildR]
  omega
theorem mixL_pos (k : Nat) (b : Bs) : 0 < (mixL k b).length := by simp [mixL, buildR]
theorem mixAll_mem {Bd : List Bs} {X : List Rec} (h : X ∈ mixAll Bd) : ∃ k, ∃ hk : k < Bd.length, X = mixL k Bd[k] := by
  obtain ⟨k, hk, rfl⟩ := List.getElem_of_mem h
  have hk2 : k < Bd.length := by rw [← mixAll_len Bd]; exact hk
  refine ⟨k, hk2, ?_⟩
  have := mixAll_at Bd k hk2
  rw [List.getElem?_eq_getElem hk] at this
  exact Option.some.inj this
theorem mixAll_bytes (Bd : List Bs) (hn : Bd.length ≤ 6) (hb : ∀ b ∈ Bd, b.length ≤ 700) : sumB (mixAll Bd) ≤ 180000 := by
  have := sumF_le (fun l => (allBytes l).length) 30000 (mixAll Bd) (fun X hX => by
    obtain ⟨k, hk, rfl⟩ := mixAll_mem hX
    exact mixL_bytes k (by omega) _ (hb _ (List.getElem_mem hk)))
  rw [mixAll_len] at this
  unfold sumB
  omega
theorem mix_is {Bd : List Bs} {E : List Rec} {R : List (List Rec)} (h : MixInv Bd E R) (hn : Bd.length ≤ 6) : ∀ x ∈ E, x.Is := by
  intro x hx
  have hm : x ∈ atI (mixAll Bd) x.id := by
    rw [← h.all x.id]
    exact List.mem_append_left _ (List.mem_filter.2 ⟨hx, by simp⟩)
  obtain ⟨k, hk, _, hx2⟩ := mix_in hm
  exact build_is _ (by omega) _ _ x hx2
theorem mix_rest_is {Bd : List Bs} {E : List Rec} {R : List (List Rec)} (h : MixInv Bd E R) (hn : Bd.length ≤ 6) (k : Nat) (hk : k < R.length) : ∀ x ∈ R[k], x.Is := by
  intro x hx
  have hm : x ∈ atI (mixAll Bd) ((k : Int) + 1) := by
    rw [← h.all, atI_at R k hk]
    exact List.mem_append_right _ hx
  obtain ⟨k, hk, _, hx2⟩ := mix_in hm
  exact build_is _ (by omega) _ _ x hx2

theorem set_same {α : Type} : ∀ (l : List α) (i : Nat) (x : α), l[i]? = some x → l.set i x = l
  | [], _, _, h => by simp at h
  | a :: l, 0, x, h => by simp at h; rw [h]; rfl
  | a :: l, i + 1, x, h => by rw [List.set_cons_succ, set_same l i x (by simpa using h)]
theorem run_ids (r : JS) (f : Int) (l : List Rec) (h : (r.run f l).2 = 0) : (r.run f l).1.l.map (·.id) = r.l.map (·.id) ++ (l.filter fun x => x.t == 1).map (·.id) := by
  induction l generalizing r f with
  | nil => simp [JS.run]
  | cons x l ih =>
    rw [run_cons] at h ⊢
    by_cases e : (r.take x f).2 = 0
    · rw [if_pos e] at h ⊢
      rw [ih _ _ h]
      have : (r.take x f).1.l.map (·.id) = r.l.map (·.id) ++ if x.t = 1 then [x.id] else [] := by
        have hb : (r.begins x f).2 = 0 → (r.begins x f).1.l.map (·.id) = r.l.map (·.id) ++ [x.id] := by
          intro h
          unfold JS.begins at h ⊢
          split at h
          next hh => rw [if_pos hh]; simp
          next hh => cases h
        unfold JS.take at e ⊢
        by_cases h0 : x.id = 0
        · rw [if_pos h0] at e; cases e
        rw [if_neg h0] at e ⊢
        split at e
        · split at e
          next ht => rw [if_pos ht, if_pos ht]; exact hb e
          next ht => cases e
        next p hp =>
          split at e
          next ht =>
            rw [if_pos ht, if_pos ht]
            split at e
            · cases e
            next hw => rw [if_neg hw]; exact hb e
          next ht =>
            rw [if_neg ht, if_neg ht]
            unfold JS.goes at e ⊢
            split at e
            next hc =>
              rw [if_pos hc]
              simp only [List.append_nil, List.map_set, goS_id]
              rcases Nat.lt_or_ge p.pos r.l.length with hlt | hge
              · rw [List.getD_eq_getElem?_getD, List.getElem?_eq_getElem hlt, Option.getD_some]
                exact set_same _ _ _ (by rw [List.getElem?_map, List.getElem?_eq_getElem hlt]; rfl)
              · exact List.set_eq_of_length_le (by simpa using hge)
            next hc => exact absurd e hc
      rw [this, List.filter_cons]
      by_cases ht : x.t = 1
      · simp [ht]
      · simp [ht]
    · rw [if_neg e] at h
      exact absurd h e
theorem ids_nodup (E : List Rec) (h : ∀ i : Int, ((E.filter fun x => x.id == i).filter fun x => x.t == 1).length ≤ 1) : ((E.filter fun x => x.t == 1).map (·.id)).Nodup := by
  induction E with
  | nil => simp
  | cons x E ih =>
    have hE : ((E.filter fun x => x.t == 1).map (·.id)).Nodup := ih fun i => Nat.le_trans (List.Sublist.length_le (List.Sublist.filter _ (List.Sublist.filter _ (List.sublist_cons_self x E)))) (h i)
    by_cases ht : x.t = 1
    · rw [List.filter_cons_of_pos (by simpa using ht), List.map_cons, List.nodup_cons]
      refine ⟨fun hm => ?_, hE⟩
      obtain ⟨y, hy, hyi⟩ := List.mem_map.1 hm
      obtain ⟨hy1, hy2⟩ := List.mem_filter.1 hy
      have := h x.id
      rw [List.filter_cons_of_pos (by simp), List.filter_cons_of_pos (by simpa using ht), List.length_cons] at this
      have h2 : y ∈ ((E.filter fun z => z.id == x.id).filter fun z => z.t == 1) := List.mem_filter.2 ⟨List.mem_filter.2 ⟨hy1, by simpa using hyi⟩, hy2⟩
      have := List.length_pos_of_mem h2
      omega
    · rw [List.filter_cons_of_neg (by simpa using ht)]
      exact hE
theorem count_split (E : List Rec) (n : Nat) : (E.filter fun x => decide (1 ≤ x.id ∧ x.id ≤ ((n + 1 : Nat) : Int))).length = (E.filter fun x => decide (1 ≤ x.id ∧ x.id ≤ (n : Int))).length + (E.filter fun x => x.id == (n : Int) + 1).length := by
  induction E with
  | nil => rfl
  | cons x E ih =>
    simp only [List.filter_cons]
    by_cases h1 : 1 ≤ x.id ∧ x.id ≤ (n : Int)
    · rw [if_pos (by simpa using ⟨h1.1, by omega⟩), if_pos (by simpa using h1), if_neg (by simp; omega), List.length_cons, List.length_cons, ih]
      omega
    · by_cases h2 : x.id = (n : Int) + 1
      · rw [if_pos (by simp; omega), if_neg (by simpa using h1), if_pos (by simpa using h2), List.length_cons, List.length_cons, ih]
        omega
      · rw [if_neg (by simp; omega), if_neg (by simpa using h1), if_neg (by simpa using h2), ih]
theorem count_parts (E : List Rec) (n : Nat) (h : ∀ k, k < n → (E.filter fun x => x.id == (k : Int) + 1).length = 1) : (E.filter fun x => decide (1 ≤ x.id ∧ x.id ≤ (n : Int))).length = n := by
  induction n with
  | zero =>
    rw [List.filter_eq_nil_iff.2]
    · rfl
    · intro x _
      simp
      omega
  | succ n ih => rw [count_split, ih (fun k hk => h k (by omega)), h n (by omega)]
theorem reuse_nodup : ∀ (l : List (Int × Int)) (last : Int → Option Int), (l.map (·.1)).Nodup → (∀ m ∈ l, last m.1 = none) → reuseRun [] last l = true
  | [], _, _, _ => rfl
  | (i, b) :: l, last, hn, hl => by
    unfold reuseRun
    have h0 := hl (i, b) (by simp)
    simp only at h0
    rw [h0, if_pos (by rfl)]
    rw [List.map_cons, List.nodup_cons] at hn
    refine reuse_nodup l _ hn.2 fun m hm => ?_
    rw [if_neg]
    · exact hl m (by simp [hm])
    · intro e
      exact hn.1 (List.mem_map.2 ⟨m, hm, e⟩)
theorem one_mix (k : Nat) (b : Bs) (hb : b.length ≤ 700) : oneRun none (mixL k b) = (some (⟨(k : Int) + 1, [([110], b)], b, true, false⟩, 3, pairB [([110], b)]), 0) := by
  have hP := one_pair [110] b (by decide) (by omega)
  have ht := one_tail ((k : Int) + 1) [([110], b)] b hP
  obtain ⟨h1, h2, h3, h4, h5⟩ := rb_begin ((k : Int) + 1)
  unfold mixL
  rw [build_eq, oneRun_cons]
  have ho : oneS none (beginR ((k : Int) + 1) true) = (some (Snt.new ((k : Int) + 1), 1, []), 0) := by
    unfold oneS
    simp only
    rw [if_pos ⟨h4, h1, h2, h3⟩, h5]
  rw [ho]
  simp only [if_true]
  exact ht
theorem mixL_begins (k : Nat) (b : Bs) : ((mixL k b).filter fun x => x.t == 1).length = 1 := by
  unfold mixL
  rw [build_eq, List.filter_cons_of_pos (by simp [(rb_begin ((k : Int) + 1)).2.2.2.1]), List.filter_eq_nil_iff.2]
  · rfl
  · intro x hx
    simpa using (tail_ids _ _ _ x hx).2

def mixS (Bd : List Bs) (k : Nat) : Snt := ⟨(k : Int) + 1, [([110], Bd.getD k [])], Bd.getD k [], true, false⟩
theorem mix_read (Bd : List Bs) (hn : Bd.length ≤ 6) (hb : ∀ b ∈ Bd, b.length ≤ 700) (E : List Rec) (h : ∀ i : Int, (E.filter fun x => x.id == i) = atI (mixAll Bd) i) :
    (JS.empty.run 0 E).2 = 0 ∧ (JS.empty.run 0 E).1.l.length = Bd.length ∧ (∀ s ∈ (JS.empty.run 0 E).1.l, ∃ k, k < Bd.length ∧ s = mixS Bd k) ∧ reuseRun [] (fun _ => none) (((JS.empty.run 0 E).1.l.map (·.id)).zip (JS.empty.run 0 E).1.frm) = true := by
  have hin : ∀ x ∈ E, ∃ k : Nat, k < Bd.length ∧ x.id = (k : Int) + 1 := by
    intro x hx
    have hm : x ∈ atI (mixAll Bd) x.id := by rw [← h]; exact List.mem_filter.2 ⟨hx, by simp⟩
    obtain ⟨k, hk, e, _⟩ := mix_in hm
    exact ⟨k, hk, e⟩
  have hone : ∀ i : Int, (oneRun (JS.empty.at_ i) (E.filter fun x => x.id == i)).2 = 0 := by
    intro i
    rw [h i]
    by_cases hi : i < 1 ∨ (Bd.length : Int) < i
    · rw [atI_out _ i (by rw [mixAll_len]; exact hi)]
      rfl
    · obtain ⟨k, hk, rfl⟩ := num_in (n := Bd.length) (i := i) (by omega) (by omega)
      rw [atI_mix Bd k hk]
      show (oneRun none _).2 = 0
      rw [one_mix k _ (hb _ (List.getElem_mem hk))]
  obtain ⟨r0, r1⟩ := run_mix ok_empty 0 E (fun x hx => by obtain ⟨k, _, e⟩ := hin x hx; omega) hone
  have hok := ok_run ok_empty 0 E
  have hids := run_ids JS.empty 0 E r0
  have hcount : ∀ i : Int, ((E.filter fun x => x.id == i).filter fun x => x.t == 1).length ≤ 1 := by
    intro i
    rw [h i]
    by_cases hi : i < 1 ∨ (Bd.length : Int) < i
    · rw [atI_out _ i (by rw [mixAll_len]; exact hi)]
      simp
    · obtain ⟨k, hk, rfl⟩ := num_in (n := Bd.length) (i := i) (by omega) (by omega)
      rw [atI_mix Bd k hk, mixL_begins]
      exact Nat.le_refl _
  have hnd := ids_nodup E hcount
  have hlen : (E.filter fun x => x.t == 1).length = Bd.length := by
    have := count_parts (E.filter fun x => x.t == 1) Bd.length (fun k hk => by
      rw [List.filter_filter]
      have e : (E.filter fun x => (x.id == (k : Int) + 1) && (x.t == 1)) = ((E.filter fun x => x.id == (k : Int) + 1).filter fun x => x.t == 1) := by
        rw [List.filter_filter]
        congr 1
        funext x
        exact Bool.and_comm _ _
      rw [e, h, atI_mix Bd k hk, mixL_begins])
    rw [List.filter_eq_self.2] at this
    · exact this
    · intro x hx
      obtain ⟨k, hk, e⟩ := hin x (List.mem_filter.1 hx).1
      simp
      omega
  have hil : (JS.empty.run 0 E).1.l.map (·.id) = (E.filter fun x => x.t == 1).map (·.id) := by rw [hids]; rfl
  generalize (JS.empty.run 0 E).1 = S at *
  have hsl : S.l.length = Bd.length := by
    have := congrArg List.length hil
    rw [List.length_map, List.length_map, hlen] at this
    exact this
  rw [← hil] at hnd
  refine ⟨r0, hsl, ?_, ?_⟩
  · intro s hs
    obtain ⟨j, hj, rfl⟩ := List.getElem_of_mem hs
    have hm : S.l[j].id ∈ (E.filter fun x => x.t == 1).map (·.id) := by rw [← hil]; exact List.mem_map.2 ⟨_, hs, rfl⟩
    obtain ⟨x, hx, hxi⟩ := List.mem_map.1 hm
    obtain ⟨k, hk, e⟩ := hin x (List.mem_filter.1 hx).1
    have hid : S.l[j].id = (k : Int) + 1 := by rw [← hxi]; exact e
    have ha := r1 ((k : Int) + 1)
    rw [h, atI_mix Bd k hk] at ha
    have hz : JS.empty.at_ ((k : Int) + 1) = none := rfl
    rw [hz, one_mix k _ (hb _ (List.getElem_mem hk))] at ha
    unfold JS.at_ at ha
    cases hp : S.ids ((k : Int) + 1) with
    | none => rw [hp] at ha; cases ha
    | some p =>
      rw [hp] at ha
      simp only [Option.map_some, Option.some.injEq, Prod.mk.injEq] at ha
      obtain ⟨q1, q2⟩ := hok.2 _ _ hp
      have hg : S.l.getD p.pos default = S.l[p.pos] := by rw [List.getD_eq_getElem?_getD, List.getElem?_eq_getElem q1]; rfl
      rw [hg] at ha q2
      have hpj : p.pos = j := by
        have := List.pairwise_iff_getElem.1 hnd
        rcases Nat.lt_trichotomy p.pos j with hlt | e2 | hlt
        · exact absurd (by rw [List.getElem_map, List.getElem_map, q2, hid]) (this p.pos j (by simpa using q1) (by simpa using hj) hlt)
        · exact e2
        · exact absurd (by rw [List.getElem_map, List.getElem_map, q2, hid]) (this j p.pos (by simpa using hj) (by simpa using q1) hlt)
      subst hpj
      refine ⟨k, hk, ?_⟩
      rw [ha.1]
      unfold mixS
      rw [List.getD_eq_getElem?_getD, List.getElem?_eq_getElem hk]
      rfl
  · refine reuse_nodup _ _ ?_ (fun _ _ => rfl)
    rw [List.map_fst_zip (by rw [List.length_map, hok.1]; exact Nat.le_refl _)]
    exact hnd
end Go.Proofs.YtniflggmfegnfaaDoor

/- A row of rows of records in memory; the rules for a region that makes a row, wraps it into a row of one, and appends that; a call that reads a row that the region made. No condition. -/
namespace Go.Proofs.YtniflggmfegnfaaDoor
open Go.RowKit

/-- u is a row of the records L, in a block of records. -/
def RR (w : World) (u : Value) (L : List Rec) : Prop := ∃ a cap, u = .slice a L.length cap ∧ L.length ≤ cap ∧ cap ≤ maxLen ∧
  (0 < L.length → ∃ g off cur, a = some ⟨g, off, none⟩ ∧ w.heap[g]? = some (.cells cur 33 (0, 0)) ∧ ∀ j x, (recCells L)[j]? = some x → cur[off + j]? = some x)
theorem RR.keeps {w w' : World} {u : Value} {L : List Rec} (h : RR w u L) (hk : Keeps w w') : RR w' u L := by
  obtain ⟨a, cap, h1, h2, h3, h4⟩ := h
  refine ⟨a, cap, h1, h2, h3, fun hl => ?_⟩
  obtain ⟨g, off, cur, e, hb, hc⟩ := h4 hl
  exact ⟨g, off, cur, e, hk _ _ _ hb, hc⟩
theorem RR.of_own {B : Nat} {w : World} {u : Value} {L : List Rec} (h : w.ownsRow B 33 4 u L.length (recCells L)) : RR w u L := by
  rcases h.2 with ⟨rfl, hn⟩ | ⟨g, cap, cur, rfl, _, hb, h1, h2, hs, ht⟩
  · exact ⟨none, 0, by rw [hn], by omega, by unfold maxLen; omega, fun hl => by omega⟩
  · refine ⟨_, cap, rfl, h1, h2, fun _ => ⟨g, 0, cur, rfl, hb, fun j x hj => ?_⟩⟩
    rw [← ht] at hj
    rw [List.getElem?_take] at hj
    split at hj
    · rw [Nat.zero_add, ← Array.getElem?_toList]
      exact hj
    · cases hj
theorem RR.slice {w : World} {u : Value} {L : List Rec} (h : RR w u L) : ∃ a cap, u = .slice a L.length cap := by obtain ⟨a, cap, h, _⟩ := h; exact ⟨a, cap, h⟩
/-- The first record, and the row behind it. -/
theorem RR.first {w : World} {u : Value} {x : Rec} {X : List Rec} (h : RR w u (x :: X)) : ∃ g off cap cur, u = .slice (some ⟨g, off, none⟩) (X.length + 1) cap ∧ X.length + 1 ≤ cap ∧ cap ≤ maxLen ∧ w.heap[g]? = some (.cells cur 33 (0, 0)) ∧
    cur[off]? = some (.int .i64 x.t) ∧ cur[off + 1]? = some (.int .i64 x.id) ∧ cur[off + 2]? = some (.string (bs x.c)) ∧ cur[off + 3]? = some (.int .i64 x.p) ∧
    ∀ (w' : World) (A : Option Addr), Keeps w w' → (0 < X.length → A = some ⟨g, off + 4, none⟩) → RR w' (.slice A X.length (cap - 1)) X := by
  obtain ⟨a, cap, h1, h2, h3, h4⟩ := h
  obtain ⟨g, off, cur, rfl, hb, hc⟩ := h4 (by simp)
  simp only [List.length_cons] at h1 h2
  refine ⟨g, off, cap, cur, h1, h2, h3, hb, hc 0 _ rfl, hc 1 _ rfl, hc 2 _ rfl, hc 3 _ rfl, fun w' A hk hA => ?_⟩
  refine ⟨A, cap - 1, rfl, by omega, by omega, fun hl => ⟨g, off + 4, cur, hA hl, hk _ _ _ hb, fun j y hj => ?_⟩⟩
  have := hc (4 + j) y (by
    have e : recCells (x :: X) = x.cells ++ recCells X := by simp [recCells]
    rw [e, List.getElem?_append_right (by rw [Rec.cells_len]; omega), Rec.cells_len, show 4 + j - 4 = j by omega]
    exact hj)
  rw [show off + 4 + j = off + (4 + j) by omega]
  exact this

/-- v is a row of rows of records. -/
def RRow (B : Nat) (w : World) (v : Value) (R : List (List Rec)) : Prop := ∃ us : List Value, us.length = R.length ∧ w.ownsRow B 26 1 v R.length us ∧ ∀ (j : Nat) (u : Value) (X : List Rec), us[j]? = some u → R[j]? = some X → RR w u X
theorem RRow.kept {B : Nat} {w w' : World} {v : Value} {R : List (List Rec)} (h : RRow B w v R) (hb : Below w.heap.size w w') : RRow B w' v R := by
  obtain ⟨us, h1, h2, h3⟩ := h
  exact ⟨us, h1, own_kept h2 hb, fun j u X hj hX => (h3 j u X hj hX).keeps (keeps_below hb)⟩
theorem RRow.nil (B : Nat) (w : World) : RRow B w (.slice none 0 0) [] := ⟨[], rfl, World.ownsRow_nil w B _ _, fun j u X h => by simp at h⟩
/-- The row opened at a place. -/
theorem RRow.at {B : Nat} {w : World} {v : Value} {R : List (List Rec)} (h : RRow B w v R) {k : Nat} (hk : k < R.length) : ∃ g cap cur, v = .slice (some ⟨g, 0, none⟩) R.length cap ∧ R.length ≤ cap ∧ B ≤ g ∧ w.heap[g]? = some (.cells cur 26 (0, 0)) ∧
    ∃ u, cur[k]? = some u ∧ RR w u R[k] ∧ ∀ (w' : World) (u' : Value) (X : List Rec), w'.heap[g]? = some (.cells (cur.setIfInBounds k u') 26 (0, 0)) → Keeps w w' → RR w' u' X → RRow B w' v (R.set k X) := by
  obtain ⟨us, h1, h2, h3⟩ := h
  rcases h2.2 with ⟨_, hn⟩ | ⟨g, cap, cur, rfl, hB, hb, c1, c2, hs, ht⟩
  · omega
  · have hcu : ∀ j, j < R.length → cur[j]? = us[j]? := by
      intro j hj
      have e : us[j]? = (cur.toList.take (R.length * 1))[j]? := by rw [ht]
      rw [e, List.getElem?_take, if_pos (by omega), Array.getElem?_toList]
    refine ⟨g, cap, cur, rfl, c1, hB, hb, us[k], by rw [hcu k hk]; exact List.getElem?_eq_getElem (by omega), h3 k _ _ (List.getElem?_eq_getElem (by omega)) (List.getElem?_eq_getElem hk), ?_⟩
    intro w' u' X hb' hkp hu
    refine ⟨us.set k u', by rw [List.length_set, List.length_set]; exact h1, ⟨by rw [List.length_set, List.length_set]; omega, .inr ⟨g, cap, _, by rw [List.length_set], hB, hb', by rw [List.length_set]; exact c1, c2, by simpa using hs, ?_⟩⟩, ?_⟩
    · rw [List.length_set, Array.toList_setIfInBounds, List.take_set, ht]
    · intro j u Y hj hY
      by_cases e : j = k
      · subst e
        rw [List.getElem?_set_self (by omega)] at hj
        rw [List.getElem?_set_self hk] at hY
        cases hj
        cases hY
        exact hu
      · rw [List.getElem?_set_ne (fun h => e h.symm)] at hj hY
        exact (h3 j u Y hj hY).keeps hkp

namespace Rg
/-- v is a row of n values of which the last one is a row of the records L. -/
def NewRow (n : Nat) (us : List Value) (L : List Rec) : Value → (Nat → Prop) → World → Prop := fun v F w => ∃ u, Row 26 1 n (us ++ [u]) v F w ∧ Row 33 4 L.length (recCells L) u F w
theorem stable_newRow {w0 : World} {own0 : Nat → Nat → Prop} {n : Nat} {us : List Value} {L : List Rec} {l : List Fact} (h : ∀ φ ∈ l, Stable w0 own0 φ) : ∀ φ ∈ Fact.any (NewRow n us L) :: l, Stable w0 own0 φ := fun φ hm => by
  rcases List.mem_cons.1 hm with rfl | hm
  · rintro v F M w w' ⟨u, h1, h2⟩ hs hM
    exact ⟨u, row_stable (w0 := w0) (own0 := own0) v F M w w' h1 hs hM, row_stable (w0 := w0) (own0 := own0) u F M w w' h2 hs hM⟩
  · exact h φ hm
theorem row_wider {e : TypeId} {size n : Nat} {xs : List Value} {v : Value} {F G : Nat → Prop} {w : World} (h : Row e size n xs v F w) (hFG : ∀ k, v.ownBlock = some k → F k → G k) : Row e size n xs v G w := ⟨h.1, fun k hk => hFG k hk (h.2 k hk)⟩

section
variable {ops : Array Oper} {w0 : World} {own0 : Nat → Nat → Prop} {cons : Nat → List Nat} {facts : List Fact} {i : Nat} {o : Oper} {vs : Nat → Value} {a : Act} {os : List Oper} {φs : List Fact}
/-- A call that reads what operation d made, and whose result has a property, with new blocks of its own. -/
theorem Chain.callReads {P : Program} {p q : Value → (Nat → Prop) → World → Prop} (d : Nat) (hf : facts[d]? = some (.any q)) (hd : (deps o).contains d = true) (hn : ∀ j, j ≠ i → d ∉ cons j) (f : FuncId) (args : Array Value) (hg : Region.wanted o (yielded ops a.tmps) = true)
    (h : ∀ w, (execOp a.eval o).run P w = .ok (.enter f args) w)
    (hc : ∀ w F, Step (fun k => ∃ j, own0 j k) w0 w → q (vs d) F w → Calls P f args w fun e w' => ∃ v, e = .returned v ∧ p v (fun k => w.heap.size ≤ k ∧ k < w'.heap.size) w' ∧ Below w.heap.size w w')
    (hr : Chain P ops w0 own0 cons facts vs os φs (i + 1) (a.put o.dst (vs i))) : Chain P ops w0 own0 cons facts vs (o :: os) (.any p :: φs) i a := by
  refine ⟨?_, hr⟩
  intro F w K hp hK
  rw [if_pos hg]
  unfold Oper.wp
  rw [h w]
  refine Calls.mono (hc w (F d) hp.step (hp.fact d _ (by simpa using hd) hn hf)) ?_
  rintro e w' ⟨v, rfl, hv, hb⟩
  exact hK v w' ⟨_, below_step hb rfl, hv, fun k hk => ⟨hk.2, .inl hk.1⟩⟩
/-- A row of one that holds the row that operation d made: it is taken up. -/
theorem Chain.wrapRow {L : List Rec} (d : Nat) (hf : facts[d]? = some (.any (Row 33 4 L.length (recCells L)))) (hd : (deps o).contains d = true) (hn : ∀ j, j ≠ i → d ∉ cons j) (hc : d ∈ cons i) (hg : Region.wanted o (yielded ops a.tmps) = true)
    (h : ∀ w A n c, vs d = .slice A n c → (execOp a.eval o).run Tryd.prog w = .ok (.value (.slice (some ⟨w.heap.size, 0, none⟩) 1 1)) (w.alloc (.cells #[.slice A n c] 26)))
    (hr : Chain Tryd.prog ops w0 own0 cons facts vs os φs (i + 1) (a.put o.dst (vs i))) : Chain Tryd.prog ops w0 own0 cons facts vs (o :: os) (.any (NewRow 1 [] L) :: φs) i a := by
  refine ⟨?_, hr⟩
  intro F w K hp hK
  rw [if_pos hg]
  unfold Oper.wp
  have hv := hp.fact d _ (by simpa using hd) hn hf
  obtain ⟨A, c, he⟩ := own_slice hv.1
  rw [h w A _ c he]
  refine hK _ _ ⟨fun k => k = w.heap.size ∨ F d k, below_step (below_alloc w _) rfl, ⟨vs d, ?_, ?_⟩, ?_⟩
  · rw [he]
    have := row_new w 26 1 1 #[.slice A L.length c] rfl (by unfold maxLen; omega)
    exact row_wider this (fun k _ hk => .inl hk)
  · refine ⟨own_kept hv.1 (below_alloc w _), fun k hk => .inr (hv.2 k hk)⟩
  · rintro k (rfl | hk)
    · exact ⟨by simp, .inl (Nat.le_refl _)⟩
    · refine ⟨?_, .inr (.inr ⟨d, hc, hk⟩)⟩
      have := (hp.own d k (by simpa using hd) hn hk).1
      simp
      omega
/-- 'append' of such a row of one to a row that operation d1 gave: both are taken up. -/
theorem Chain.appendWrap {L : List Rec} (d1 d2 : Nat) (hg : Region.wanted o (yielded ops a.tmps) = true) (x y : Operand)
    (ho : o.op = .call { callee := .builtin .append, args := #[x, y], argTypes := #[25, 25] }) (hty : o.type = 25) (hx : a.eval x = vs d1) (hy : a.eval y = vs d2)
    {n : Nat} {us : List Value} (hf1 : facts[d1]? = some (.any (Row 26 1 n us))) (hf2 : facts[d2]? = some (.any (NewRow 1 [] L)))
    (hd1 : (deps o).contains d1 = true) (hd2 : (deps o).contains d2 = true) (hn1 : ∀ j, j ≠ i → d1 ∉ cons j) (hn2 : ∀ j, j ≠ i → d2 ∉ cons j) (hc1 : d1 ∈ cons i) (hc2 : d2 ∈ cons i) (hne : d1 ≠ d2) (h : n + 1 ≤ 1000000000)
    (hr : Chain Tryd.prog ops w0 own0 cons facts vs os φs (i + 1) (a.put o.dst (vs i))) :
    Chain Tryd.prog ops w0 own0 cons facts vs (o :: os) (.any (NewRow (n + 1) us L) :: φs) i a := by
  refine ⟨?_, hr⟩
  intro F w K hp hK
  have hv := hp.fact d1 _ (by simpa using hd1) hn1 hf1
  obtain ⟨u, hu, hL⟩ := hp.fact d2 _ (by simpa using hd2) hn2 hf2
  have hap := fun k => hp.apart d1 d2 k (by simpa using hd1) hn1 (by simpa using hd2) hn2 hne
  obtain ⟨A, c, rfl⟩ := own_slice hL.1
  obtain ⟨ti, hti, hzz, hsz, hby⟩ : ∃ ti, Tryd.prog.info? 26 = some ti ∧ ti.zero = some (.slice none 0 0) ∧ ti.size = 1 ∧ ti.bytes = 24 := by
    have hh : (Tryd.prog.info? 26).map (fun i => (i.zero, i.size, i.bytes)) = some (some (.slice none 0 0), 1, 24) := by kernel_rfl
    cases hq : Tryd.prog.info? 26 with
    | none => rw [hq] at hh; cases hh
    | some ti =>
      rw [hq] at hh
      simp only [Option.map_some, Option.some.injEq, Prod.mk.injEq] at hh
      exact ⟨ti, rfl, hh.1, hh.2.1, hh.2.2⟩
  obtain ⟨v', w', hrun, hrow, hst⟩ := run_append_rows (P := Tryd.prog) w 25 25 26 ti _ 1 24 Tryd.underlying25 hti hzz hsz hby rfl (by decide) hv hu (by intro y hy; simp at hy; subst hy; rfl) (by unfold maxLen; omega) (by omega)
  rw [if_pos hg]
  unfold Oper.wp execOp
  simp only [ho, hty, resolve, invoke, builtin, Sem.run_bind, Sem.run_pure, Result.andThen_ok, List.map_toArray, List.map_cons, List.map_nil, hx, hy, hrun]
  refine hK v' w' ⟨fun k => k < w'.heap.size ∧ (w.heap.size ≤ k ∨ F d1 k ∨ F d2 k), hst.mono (fun k _ hk => .inr ⟨d1, hc1, hk⟩), ⟨_, row_wider hrow (fun k _ hk => ⟨hk.1, hk.2.elim .inl fun h => .inr (.inl h)⟩), ?_⟩, ?_⟩
  · refine ⟨ownsRow_step hL.1 hst (fun k hk hm => hap k hm (hL.2 k hk)), fun k hk => ⟨Nat.lt_of_lt_of_le (hL.1.lt k hk).2 hst.size, .inr (.inr (hL.2 k hk))⟩⟩
  · rintro k ⟨hk, h⟩
    refine ⟨hk, ?_⟩
    rcases h with h | h | h
    · exact .inl h
    · exact .inr (.inr ⟨d1, hc1, h⟩)
    · exact .inr (.inr ⟨d2, hc2, h⟩)
end
end Rg
theorem step_keeps {own : Nat → Nat → Prop} {w w' : World} {T : TypeId} (hs : Rg.Step (fun k => ∃ j, own j k) w w') (hT : 33 ≠ T) (h : ∀ j k, own j k → ∃ cur fr, w.heap[k]? = some (.cells cur T fr)) : Keeps w w' := by
  intro g cur fr hc
  rw [hs.block g (box_lt hc) ?_]
  · exact hc
  · rintro ⟨j, hj⟩
    obtain ⟨cur2, fr2, h2⟩ := h j g hj
    exact cells_ne hc h2 hT rfl
theorem take_next (M : List (List Rec)) (k : Nat) (X : List Rec) (h : M[k]? = some X) : M.take (k + 1) = M.take k ++ [X] := by
  obtain ⟨hl, rfl⟩ := List.getElem?_eq_some_iff.1 h
  exact List.take_succ_eq_append_getElem hl
theorem sumL_take (M : List (List Rec)) (k : Nat) : sumL (M.take k) ≤ sumL M := by
  conv => rhs; rw [← List.take_append_drop k M]
  unfold sumL sumF
  rw [List.map_append, List.sum_append]
  omega

end Go.Proofs.YtniflggmfegnfaaDoor
