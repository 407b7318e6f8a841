/- Records out of chunks: cut as they are, the records are the same. No program in sight. -/
import Derived.Test.YtniflggmfegnfaaDoorCutPlain
namespace Go.Proofs.YtniflggmfegnfaaDoor

def Whole (s : Bs) : Prop := at0 s 0 = 1 ∧ 8 ≤ s.length ∧ wholeN s ≤ (s.length : Int) ∧ ¬ at0 s 1 = 0
def Large (most : Int) (s : Bs) : Prop := 6 ≤ s.length ∧ at0 s 0 = 1 ∧ most < at0 s 4 * 256 + at0 s 5
instance (most : Int) (s : Bs) : Decidable (Large most s) := by unfold Large; infer_instance

theorem at0_app (t u : Bs) (i : Nat) (h : i < t.length) : at0 (t ++ u) i = at0 t i := by
  unfold at0
  rw [List.getD_eq_getElem?_getD, List.getD_eq_getElem?_getD, List.getElem?_append_left h]
theorem whole_app {s : Bs} (t : Bs) (h : 8 ≤ s.length) : wholeN (s ++ t) = wholeN s := by
  unfold wholeN
  rw [at0_app s t 4 (by omega), at0_app s t 5 (by omega), at0_app s t 6 (by omega)]
theorem large_app {most : Int} {s : Bs} (t : Bs) (h : 6 ≤ s.length) : Large most (s ++ t) ↔ Large most s := by
  unfold Large
  rw [at0_app s t 0 (by omega), at0_app s t 4 (by omega), at0_app s t 5 (by omega), List.length_append]
  constructor
  · rintro ⟨_, b, c⟩; exact ⟨h, b, c⟩
  · rintro ⟨a, b, c⟩; exact ⟨by omega, b, c⟩

theorem code_zero {s : Bs} (h : (recRead s).2.2 = 0) : Whole s := by
  unfold recRead at h
  split at h
  · simp at h
  · split at h
    · simp at h
    · split at h
      · simp at h
      · split at h
        · simp at h
        · rename_i h1 h2 h3 h4
          have h8 : 8 ≤ s.length := by omega
          refine ⟨?_, h8, by omega, h4⟩
          by_cases ha : at0 s 0 = 1
          · exact ha
          · exact absurd ⟨by rintro rfl; simp at h8, ha⟩ h1
theorem front_app {s : Bs} (t : Bs) (h : Whole s) : front (s ++ t) = front s := by
  obtain ⟨h1, h2, h3, h4⟩ := h
  have hw := wholeN_lo s
  unfold front
  rw [whole_app t h2, at0_app s t 1 (by omega), at0_app s t 2 (by omega), at0_app s t 3 (by omega), at0_app s t 6 (by omega), List.take_append_of_le_length (by omega)]
theorem read_app {s : Bs} (t : Bs) (h : Whole s) : recRead (s ++ t) = (front s, s.drop (wholeN s).toNat ++ t, 0) := by
  have h' := h
  obtain ⟨h1, h2, h3, h4⟩ := h
  have hw := wholeN_lo s
  rw [recRead_ok (by rw [at0_app s t 0 (by omega)]; exact h1) (by rw [List.length_append]; omega) (by rw [whole_app t h2, List.length_append]; omega) (by rw [at0_app s t 1 (by omega)]; exact h4), front_app t h', whole_app t h2, List.drop_append_of_le_length (by omega)]

theorem cutNext_def (most : Int) (s : Bs) : cutNext most s = if Large most s then (Rec.zero, s, 12) else recRead s := rfl
theorem cutNext_more {most : Int} {s : Bs} (t : Bs) (h : (cutNext most s).2.2 = 0) : cutNext most (s ++ t) = ((cutNext most s).1, (cutNext most s).2.1 ++ t, 0) := by
  rw [cutNext_def] at h
  split at h
  · simp at h
  next hl =>
    have hw := code_zero h
    have h6 : 6 ≤ s.length := by have := hw.2.1; omega
    rw [cutNext_def, cutNext_def, if_neg hl, if_neg (fun x => hl ((large_app t h6).1 x)), read_app t hw, recRead_ok hw.1 hw.2.1 hw.2.2.1 hw.2.2.2]
theorem cutNext_bad {most : Int} {s : Bs} (t : Bs) (h : (cutNext most s).2.2 ≠ 0) (h' : (cutNext most s).2.2 ≠ 11) : (cutNext most (s ++ t)).2.2 = (cutNext most s).2.2 := by
  rw [cutNext_def most s] at h h' ⊢
  split at h
  next hl => rw [if_pos hl, cutNext_def, if_pos ((large_app t hl.1).2 hl)]
  next hl =>
    rw [if_neg hl] at h' ⊢
    by_cases h1 : s ≠ [] ∧ at0 s 0 ≠ 1
    · have hp : 0 < s.length := List.length_pos_iff.2 h1.1
      have e : at0 (s ++ t) 0 ≠ 1 := by rw [at0_app s t 0 hp]; exact h1.2
      rw [recRead_ver h1.1 h1.2, cutNext_def, if_neg (fun x => e x.2.1), recRead_ver (by intro x; exact h1.1 (List.append_eq_nil_iff.1 x).1) e]
    · have h1' : s = [] ∨ at0 s 0 = 1 := by
        by_cases hn : s = []
        · exact .inl hn
        · right; by_cases ha : at0 s 0 = 1
          · exact ha
          · exact absurd ⟨hn, ha⟩ h1
      by_cases h2 : s.length < 8
      · rw [recRead_short h1' h2] at h'; exact absurd rfl h'
      · have h8 : 8 ≤ s.length := by omega
        have h1'' : at0 s 0 = 1 := by
          rcases h1' with rfl | h
          · simp at h8
          · exact h
        by_cases h3 : (s.length : Int) < wholeN s
        · rw [recRead_lacks h1'' h8 h3] at h'; exact absurd rfl h'
        · by_cases h4 : at0 s 1 = 0
          · rw [recRead_form h1'' h8 (by omega) h4, cutNext_def, if_neg (fun x => hl ((large_app t (by omega)).1 x)),
              recRead_form (by rw [at0_app s t 0 (by omega)]; exact h1'') (by rw [List.length_append]; omega) (by rw [whole_app t h8, List.length_append]; omega) (by rw [at0_app s t 1 (by omega)]; exact h4)]
          · rw [recRead_ok h1'' h8 (by omega) h4] at h; exact absurd rfl h

theorem cutRun_ok {most : Int} {s : Bs} (h : (cutNext most s).2.2 = 0) : cutRun most s = glueC [(cutNext most s).1] (cutRun most (cutNext most s).2.1) := by
  rw [cutRun.eq_def most s, dif_pos h]; rfl
theorem cutRun_lacks {most : Int} {s : Bs} (h : (cutNext most s).2.2 = 11) : cutRun most s = ([], 0, s, false) := by
  rw [cutRun.eq_def, dif_neg (by omega), if_pos h]
theorem cutRun_bad {most : Int} {s : Bs} (h : (cutNext most s).2.2 ≠ 0) (h' : (cutNext most s).2.2 ≠ 11) : cutRun most s = ([], (cutNext most s).2.2, [], true) := by
  rw [cutRun.eq_def, dif_neg h, if_neg h']
theorem glueC_code (acc : List Rec) (q : List Rec × Int × Bs × Bool) : (glueC acc q).2 = q.2 := rfl
theorem glueC_glueC (a b : List Rec) (q : List Rec × Int × Bs × Bool) : glueC a (glueC b q) = glueC (a ++ b) q := by simp [glueC]

/-- Bytes that come later: as if all had come at once. -/
theorem cutRun_more (most : Int) (s t : Bs) (h : (cutRun most s).2.1 = 0) : cutRun most (s ++ t) = glueC (cutRun most s).1 (cutRun most ((cutRun most s).2.2.1 ++ t)) := by
  fun_induction cutRun most s with
  | case1 s hc ih =>
    have e := cutNext_more (most := most) t hc
    rw [cutRun_ok (by rw [e]), e]
    simp only at h ⊢
    rw [ih h, glueC_glueC]
    rfl
  | case2 s hc hc' => rfl
  | case3 s hc hc' => exact absurd h hc
theorem cutRun_bad_more (most : Int) (s t : Bs) (h : (cutRun most s).2.1 ≠ 0) : cutRun most (s ++ t) = cutRun most s := by
  fun_induction cutRun most s with
  | case1 s hc ih =>
    have e := cutNext_more (most := most) t hc
    rw [cutRun_ok (by rw [e]), e]
    simp only at h ⊢
    rw [ih h]
    rfl
  | case2 s hc hc' => exact absurd rfl h
  | case3 s hc hc' =>
    have e := cutNext_bad t hc hc'
    rw [cutRun_bad (by rw [e]; exact hc) (by rw [e]; exact hc'), e]
theorem cutRun_prefix (most : Int) (s t : Bs) (h : (cutRun most (s ++ t)).2.1 = 0) : (cutRun most s).2.1 = 0 := by
  by_cases h' : (cutRun most s).2.1 = 0
  · exact h'
  · rw [cutRun_bad_more most s t h'] at h; exact absurd h h'
theorem cutRun_dead (most : Int) (s : Bs) : ((cutRun most s).2.1 = 0 → (cutRun most s).2.2.2 = false) ∧ ((cutRun most s).2.1 ≠ 0 → (cutRun most s).2.2 = ([], true)) := by
  fun_induction cutRun most s with
  | case1 s hc ih => exact ih
  | case2 s hc hc' => exact ⟨fun _ => rfl, fun h => absurd rfl h⟩
  | case3 s hc hc' => exact ⟨fun h => absurd h hc, fun _ => rfl⟩

def allBytes (l : List Rec) : Bs := l.flatMap Rec.bytes
theorem allBytes_cons (r : Rec) (l : List Rec) : allBytes (r :: l) = r.bytes ++ allBytes l := by simp [allBytes]
theorem next_bytes {most : Int} {r : Rec} (h : r.Is) (hm : (r.c.length : Int) ≤ most) (t : Bs) : cutNext most (r.bytes ++ t) = (r, t, 0) := by
  have hr := read_back h t
  rw [cutNext_def, if_neg, hr]
  rintro ⟨_, _, h3⟩
  have hz := code_zero (s := r.bytes ++ t) (by rw [hr])
  have hf := recRead_ok hz.1 hz.2.1 hz.2.2.1 hz.2.2.2
  rw [hr] at hf
  have e := congrArg (fun q => q.1.c.length) hf
  have hw := wholeN_lo (r.bytes ++ t)
  have hle := hz.2.2.1
  simp only [front, List.length_drop, List.length_take] at e
  unfold wholeN at e hw hle
  omega
/-- Records one behind the other, and what is behind. -/
theorem cutRun_recs (most : Int) : ∀ (l : List Rec) (t : Bs), (∀ r ∈ l, r.Is ∧ (r.c.length : Int) ≤ most) → cutRun most (allBytes l ++ t) = glueC l (cutRun most t)
  | [], t, _ => by simp [allBytes, glueC]
  | r :: l, t, hF => by
    obtain ⟨h1, h2⟩ := hF r (by simp)
    have e := next_bytes h1 h2 (allBytes l ++ t)
    rw [allBytes_cons, List.append_assoc, cutRun_ok (by rw [e]), e]
    simp only
    rw [cutRun_recs most l t (fun q hq => hF q (by simp [hq])), glueC_glueC]
    rfl
end Go.Proofs.YtniflggmfegnfaaDoor
