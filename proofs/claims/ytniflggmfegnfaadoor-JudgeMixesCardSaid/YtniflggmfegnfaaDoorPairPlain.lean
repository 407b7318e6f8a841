/- What is read of pairs' bytes: of all of them the pairs; of a part of them fewer, or that bytes lack. No program in sight. -/
import Derived.Test.YtniflggmfegnfaaDoorPairRead
namespace Go.Proofs.YtniflggmfegnfaaDoor

theorem oneP_of {s s1 x y z : Bs} (h1 : LenOk s) (h2 : lenN s = x.length) (h3 : lenTail s = s1) (h4 : LenOk s1) (h5 : lenN s1 = y.length) (h6 : lenTail s1 = x ++ (y ++ z)) : oneP s = some ((x, y), z) := by
  have hl : (x ++ (y ++ z)).length = x.length + y.length + z.length := by simp; omega
  unfold oneP
  rw [h3, h2, h5, h6]
  rw [if_pos ⟨h1, h4, by rw [hl]; omega⟩]
  have e : ((x.length : Int) + (y.length : Int)).toNat = x.length + y.length := by omega
  rw [e, Int.toNat_natCast]
  simp only [Option.some.injEq, Prod.mk.injEq]
  refine ⟨⟨by simp, ?_⟩, ?_⟩
  · rw [List.drop_take]; simp
  · rw [← List.append_assoc, ← List.length_append]; simp
theorem oneP_pair (x y z : Bs) (hx : x.length ≤ 2147483647) (hy : y.length ≤ 2147483647) : oneP (lenB x.length ++ (lenB y.length ++ (x ++ (y ++ z)))) = some ((x, y), z) := by
  obtain ⟨h1, h2, h3⟩ := lenB_read x.length (lenB y.length ++ (x ++ (y ++ z))) (by omega) (by omega)
  obtain ⟨h4, h5, h6⟩ := lenB_read y.length (x ++ (y ++ z)) (by omega) (by omega)
  exact oneP_of h1 h2 h3 h4 h5 h6

theorem at0_more (t u : Bs) (i : Nat) (h : i < t.length) : at0 (t ++ u) i = at0 t i := by
  unfold at0
  rw [List.getD_eq_getElem?_getD, List.getD_eq_getElem?_getD, List.getElem?_append_left h]
theorem len_more (t u : Bs) (h : LenOk t) : LenOk (t ++ u) ∧ lenN (t ++ u) = lenN t ∧ lenTail (t ++ u) = lenTail t ++ u := by
  have hp : 0 < t.length := List.length_pos_iff.2 h.1
  have e0 := at0_more t u 0 hp
  refine ⟨⟨by intro hn; exact h.1 (List.append_eq_nil_iff.1 hn).1, ?_⟩, ?_, ?_⟩
  · rw [e0, List.length_append]
    rcases h.2 with a | a
    · exact .inl a
    · exact .inr (by omega)
  · unfold lenN
    rw [e0]
    split
    · rfl
    · have h4 := h.2.resolve_left (by assumption)
      unfold longN
      rw [e0, at0_more t u 1 (by omega), at0_more t u 2 (by omega), at0_more t u 3 (by omega)]
  · unfold lenTail
    rw [e0]
    split
    · rw [List.drop_append_of_le_length (by omega)]
    · have h4 := h.2.resolve_left (by assumption)
      rw [List.drop_append_of_le_length (by omega)]
theorem oneP_more {t : Bs} {p : Bs × Bs} {rest : Bs} (u : Bs) (h : oneP t = some (p, rest)) : oneP (t ++ u) = some (p, rest ++ u) := by
  unfold oneP at h
  split at h
  next hh =>
    obtain ⟨h1, h2, h3⟩ := hh
    obtain ⟨a1, a2, a3⟩ := len_more t u h1
    obtain ⟨b1, b2, b3⟩ := len_more (lenTail t) u h2
    have n0 := (lenN_lo t).1
    have n1 := (lenN_lo (lenTail t)).1
    unfold oneP
    rw [a3, a2, b2, b3]
    rw [if_pos ⟨a1, b1, by rw [List.length_append]; omega⟩]
    simp only [Option.some.injEq, Prod.mk.injEq] at h ⊢
    obtain ⟨rfl, rfl⟩ := h
    simp only [Prod.mk.injEq]
    refine ⟨⟨?_, ?_⟩, ?_⟩
    · rw [List.take_append_of_le_length (by omega)]
    · rw [List.take_append_of_le_length (by omega)]
    · rw [List.drop_append_of_le_length (by omega)]
  next => cases h
/-- A part of what one pair takes tells no pair. -/
theorem oneP_cut {s : Bs} {p : Bs × Bs} (h : oneP s = some (p, [])) (c : Nat) (hc : c < s.length) : oneP (s.take c) = none := by
  rcases ho : oneP (s.take c) with _ | ⟨q, rest⟩
  · rfl
  · have := oneP_more (s.drop c) ho
    rw [List.take_append_drop, h] at this
    simp only [Option.some.injEq, Prod.mk.injEq] at this
    have e := congrArg List.length this.2
    rw [List.length_append, List.length_drop, List.length_nil] at e
    omega

def encP (p : Bs × Bs) : Bs := lenB p.1.length ++ (lenB p.2.length ++ (p.1 ++ p.2))
theorem pairB_cons (p : Bs × Bs) (l : List (Bs × Bs)) : pairB (p :: l) = encP p ++ pairB l := by simp [pairB, encP]
theorem pairB_append (a b : List (Bs × Bs)) : pairB (a ++ b) = pairB a ++ pairB b := by simp [pairB]
theorem oneP_enc (p : Bs × Bs) (z : Bs) (h : p.1.length ≤ 2147483647 ∧ p.2.length ≤ 2147483647) : oneP (encP p ++ z) = some (p, z) := by
  have := oneP_pair p.1 p.2 z h.1 h.2
  have e : encP p ++ z = lenB p.1.length ++ (lenB p.2.length ++ (p.1 ++ (p.2 ++ z))) := by unfold encP; simp only [List.append_assoc]
  rw [e]; exact this
theorem encP_pos (p : Bs × Bs) : 0 < (encP p).length := by
  unfold encP lenB
  split <;> simp

theorem readP_pairs : ∀ (l : List (Bs × Bs)) (k : Nat), (∀ p ∈ l, p.1.length ≤ 2147483647 ∧ p.2.length ≤ 2147483647) → k + l.length ≤ 200 → readP k (pairB l) = (l, 0)
  | [], k, _, _ => by rw [readP.eq_def]; simp [pairB]
  | p :: l, k, hF, hk => by
    have ih := readP_pairs l (k + 1) (fun q hq => hF q (by simp [hq])) (by simp at hk; omega)
    have ho := oneP_enc p (pairB l) (hF p (by simp))
    have hp := encP_pos p
    rw [pairB_cons]
    have hne : encP p ++ pairB l ≠ [] := List.ne_nil_of_length_pos (by rw [List.length_append]; omega)
    simp at hk
    rw [readP.eq_def, if_neg hne, dif_neg (by omega), ho]
    simp only [ih, if_true]
theorem readP_many : ∀ (l : List (Bs × Bs)) (k : Nat), (∀ p ∈ l, p.1.length ≤ 2147483647 ∧ p.2.length ≤ 2147483647) → 200 < k + l.length → k ≤ 200 → readP k (pairB l) = ([], 12)
  | [], k, _, h, h' => by simp at h; omega
  | p :: l, k, hF, hk, h' => by
    have ho := oneP_enc p (pairB l) (hF p (by simp))
    have hp := encP_pos p
    rw [pairB_cons]
    have hne : encP p ++ pairB l ≠ [] := List.ne_nil_of_length_pos (by rw [List.length_append]; omega)
    simp at hk
    rw [readP.eq_def, if_neg hne]
    by_cases h2 : 200 ≤ k
    · rw [dif_pos h2]
    · have ih := readP_many l (k + 1) (fun q hq => hF q (by simp [hq])) (by omega) (by omega)
      rw [dif_neg h2, ho]
      simp [ih]
theorem readP_cut : ∀ (l : List (Bs × Bs)) (k c : Nat), (∀ p ∈ l, p.1.length ≤ 2147483647 ∧ p.2.length ≤ 2147483647) → k + l.length ≤ 200 → c < (pairB l).length →
    (readP k ((pairB l).take c) = ([], 11)) ∨ ∃ j, j < l.length ∧ readP k ((pairB l).take c) = (l.take j, 0)
  | [], k, c, _, _, hc => by simp [pairB] at hc
  | p :: l, k, c, hF, hk, hc => by
    have hp := encP_pos p
    have hFp := hF p (by simp)
    rw [pairB_cons] at hc ⊢
    simp at hk
    by_cases h0 : c = 0
    · subst h0
      exact .inr ⟨0, by simp, by rw [readP.eq_def]; simp⟩
    by_cases hlt : c < (encP p).length
    · left
      rw [List.take_append_of_le_length (by omega)]
      have hone : oneP (encP p) = some (p, []) := by have := oneP_enc p [] hFp; rwa [List.append_nil] at this
      have hn := oneP_cut hone c hlt
      have hne : (encP p).take c ≠ [] := List.ne_nil_of_length_pos (by rw [List.length_take]; omega)
      rw [readP.eq_def, if_neg hne, dif_neg (by omega), hn]
    · have e : (encP p ++ pairB l).take c = encP p ++ (pairB l).take (c - (encP p).length) := by
        rw [List.take_append, List.take_of_length_le (by omega)]
      rw [e]
      have ho := oneP_enc p ((pairB l).take (c - (encP p).length)) hFp
      have hne : encP p ++ (pairB l).take (c - (encP p).length) ≠ [] := List.ne_nil_of_length_pos (by rw [List.length_append]; omega)
      rw [List.length_append] at hc
      have ih := readP_cut l (k + 1) (c - (encP p).length) (fun q hq => hF q (by simp [hq])) (by omega) (by omega)
      rw [readP.eq_def, if_neg hne, dif_neg (by omega), ho]
      rcases ih with ih | ⟨j, hj, ih⟩
      · left; simp [ih]
      · right; exact ⟨j + 1, by simp; omega, by simp [ih]⟩
end Go.Proofs.YtniflggmfegnfaaDoor
