/- The records of a request, one by one: which they are, what they put together. No program in sight. -/
import Derived.Test.YtfhddeghmlnobaaFramesSizes
namespace Go.Proofs.Ytfhddeghmlnobaa

theorem splitR_at (t d : Int) (s : Bs) : ∀ i r, (splitR t d s)[i]? = some r → r.t = t ∧ r.id = d ∧ r.c = (s.drop (512 * i)).take 512 ∧ r.p = padN (r.c.length : Int) := by
  fun_induction splitR t d s with
  | case1 =>
    intro i r hr
    match i with
    | 0 => simp at hr; subst hr; exact ⟨rfl, rfl, by simp, rfl⟩
    | i + 1 => simp at hr
  | case2 s h ih =>
    intro i r hr
    match i with
    | 0 =>
      simp at hr
      subst hr
      refine ⟨rfl, rfl, by simp, ?_⟩
      simp only [List.length_take]
      congr 1
      omega
    | i + 1 =>
      simp at hr
      obtain ⟨h1, h2, h3, h4⟩ := ih i r hr
      refine ⟨h1, h2, ?_, h4⟩
      rw [h3, List.drop_drop]
      congr 2
      omega

theorem pad_eight (c : Bs) (hc : c.length ≤ 512) : 0 ≤ padN c.length ∧ padN c.length ≤ 7 ∧ (8 + (c.length : Int) + padN c.length) % 8 = 0 := by unfold padN; omega
theorem bytes_len (r : Rec) (h : r.Is) : r.bytes.length = 8 + r.c.length + r.p.toNat := by
  unfold Rec.bytes
  rw [if_pos h]
  simp [two]
  omega
/-- A record of a stream, as it stands in a request. -/
theorem stream_rec (r : Rec) (i : Int) (h0 : 0 ≤ i) (h1 : i ≤ 65535) (ht : r.t = 4 ∨ r.t = 5) (hi : r.id = i) (hc : r.c.length ≤ 512) (hp : r.p = padN (r.c.length : Int)) : r.Is ∧ ((r.bytes.length : Int) % 8 = 0) := by
  obtain ⟨p0, p1, p2⟩ := pad_eight r.c hc
  have hIs : r.Is := ⟨by omega, by omega, by omega, by omega, by omega, by omega, by omega⟩
  refine ⟨hIs, ?_⟩
  rw [bytes_len r hIs, hp]
  omega

theorem build_case (i : Int) (l : List (Bs × Bs)) (body : Bs) (k : Nat) (h : k < (buildR i l body).length) :
    (k = 0 ∧ (buildR i l body)[k] = beginR i true) ∨
    (1 ≤ k ∧ k ≤ (splitR 4 i (pairB l)).length ∧ (buildR i l body)[k].t = 4 ∧ (buildR i l body)[k].id = i ∧ (buildR i l body)[k].c = ((pairB l).drop (512 * (k - 1))).take 512 ∧ (buildR i l body)[k].p = padN ((buildR i l body)[k].c.length : Int)) ∨
    ((splitR 4 i (pairB l)).length < k ∧ (buildR i l body)[k].t = 5 ∧ (buildR i l body)[k].id = i ∧ (buildR i l body)[k].c = (body.drop (512 * (k - 1 - (splitR 4 i (pairB l)).length))).take 512 ∧ (buildR i l body)[k].p = padN ((buildR i l body)[k].c.length : Int)) := by
  match k with
  | 0 => exact .inl ⟨rfl, rfl⟩
  | k + 1 =>
    right
    have hg : (buildR i l body)[k + 1]? = some (buildR i l body)[k + 1] := List.getElem?_eq_getElem h
    generalize (buildR i l body)[k + 1] = r at hg ⊢
    have hg' : (splitR 4 i (pairB l) ++ splitR 5 i body)[k]? = some r := by simpa [buildR] using hg
    by_cases hk : k < (splitR 4 i (pairB l)).length
    · left
      rw [List.getElem?_append_left hk] at hg'
      obtain ⟨h1, h2, h3, h4⟩ := splitR_at _ _ _ _ _ hg'
      exact ⟨by omega, by omega, h1, h2, h3, h4⟩
    · right
      rw [List.getElem?_append_right (by omega)] at hg'
      obtain ⟨h1, h2, h3, h4⟩ := splitR_at _ _ _ _ _ hg'
      exact ⟨by omega, h1, h2, h3, h4⟩

theorem take_more (s : Bs) (j : Nat) : s.take (512 * j) ++ (s.drop (512 * j)).take 512 = s.take (512 * (j + 1)) := by
  rw [Nat.mul_add, Nat.mul_one, List.take_add]

/-- So far the walk is, behind k records: the parameters, the body, the state. -/
def backP (l : List (Bs × Bs)) (k : Nat) : Bs := (pairB l).take (512 * (k - 1))
def backS (i : Int) (l : List (Bs × Bs)) (body : Bs) (k : Nat) : Bs := body.take (512 * (k - 1 - (splitR 4 i (pairB l)).length))
def backT (i : Int) (l : List (Bs × Bs)) (body : Bs) (k : Nat) : Int :=
  if k ≤ (splitR 4 i (pairB l)).length then 0 else if k ≤ (splitR 4 i (pairB l)).length + (splitR 5 i body).length then 1 else 2

theorem back_end (i : Int) (l : List (Bs × Bs)) (body : Bs) : backP l (buildR i l body).length = pairB l ∧ backS i l body (buildR i l body).length = body ∧ backT i l body (buildR i l body).length = 2 := by
  have hl : (buildR i l body).length = 1 + (splitR 4 i (pairB l)).length + (splitR 5 i body).length := by simp [buildR]; omega
  have c1 := splitR_count 4 i (pairB l)
  have c2 := splitR_count 5 i body
  refine ⟨?_, ?_, ?_⟩
  · unfold backP; rw [List.take_of_length_le]; omega
  · unfold backS; rw [List.take_of_length_le]; omega
  · unfold backT; rw [if_neg (by omega), if_neg (by omega)]

theorem back_zero (i : Int) (l : List (Bs × Bs)) (body : Bs) : backP l 0 = [] ∧ backS i l body 0 = [] ∧ backT i l body 0 = 0 ∧ backP l 1 = [] ∧ backS i l body 1 = [] ∧ backT i l body 1 = 0 := by
  have c1 := splitR_count 4 i (pairB l)
  refine ⟨by simp [backP], by simp [backS], ?_, by simp [backP], by simp [backS], ?_⟩
  · unfold backT; rw [if_pos (by omega)]
  · unfold backT; rw [if_pos (by omega)]

theorem back_params (i : Int) (l : List (Bs × Bs)) (body : Bs) (k : Nat) (h1 : 1 ≤ k) (h2 : k ≤ (splitR 4 i (pairB l)).length) (c : Bs) (hc : c = ((pairB l).drop (512 * (k - 1))).take 512) :
    backP l k ++ c = backP l (k + 1) ∧ backS i l body k = backS i l body (k + 1) ∧ backT i l body k = 0 ∧ (c = [] → backT i l body (k + 1) = 1) ∧ (c ≠ [] → backT i l body (k + 1) = 0) := by
  have c1 := splitR_count 4 i (pairB l)
  have c2 := splitR_count 5 i body
  have hlen : c.length = min 512 ((pairB l).length - 512 * (k - 1)) := by rw [hc, List.length_take, List.length_drop]
  have hT0 : backT i l body k = 0 := by unfold backT; rw [if_pos h2]
  refine ⟨?_, ?_, hT0, ?_, ?_⟩
  · unfold backP; rw [hc, take_more]; congr 1; omega
  · unfold backS; congr 1; omega
  · intro h
    have : c.length = 0 := by rw [h]; rfl
    unfold backT; rw [if_neg (by omega), if_pos (by omega)]
  · intro h
    have : 0 < c.length := List.length_pos_iff.2 h
    unfold backT; rw [if_pos (by omega)]

theorem back_body (i : Int) (l : List (Bs × Bs)) (body : Bs) (k : Nat) (h : k < (buildR i l body).length) (h2 : (splitR 4 i (pairB l)).length < k) (c : Bs) (hc : c = (body.drop (512 * (k - 1 - (splitR 4 i (pairB l)).length))).take 512) :
    backP l k = backP l (k + 1) ∧ backS i l body k ++ c = backS i l body (k + 1) ∧ backT i l body k = 1 ∧ (c = [] → backT i l body (k + 1) = 2) ∧ (c ≠ [] → backT i l body (k + 1) = 1) := by
  have hl : (buildR i l body).length = 1 + (splitR 4 i (pairB l)).length + (splitR 5 i body).length := by simp [buildR]; omega
  have c1 := splitR_count 4 i (pairB l)
  have c2 := splitR_count 5 i body
  have hlen : c.length = min 512 (body.length - 512 * (k - 1 - (splitR 4 i (pairB l)).length)) := by rw [hc, List.length_take, List.length_drop]
  refine ⟨?_, ?_, ?_, ?_, ?_⟩
  · unfold backP; rw [List.take_of_length_le (by omega), List.take_of_length_le (by omega)]
  · unfold backS; rw [hc, take_more]; congr 1; omega
  · unfold backT; rw [if_neg (by omega), if_pos (by omega)]
  · intro h
    have : c.length = 0 := by rw [h]; rfl
    unfold backT; rw [if_neg (by omega), if_neg (by omega)]
  · intro h
    have : 0 < c.length := List.length_pos_iff.2 h
    unfold backT; rw [if_neg (by omega), if_pos (by omega)]
theorem begin_rec (i : Int) (h0 : 0 ≤ i) (h1 : i ≤ 65535) : (beginR i true).Is ∧ (((beginR i true).bytes.length : Int) % 8 = 0) ∧ (beginR i true).c.length ≤ 512 ∧ (beginR i true).id = i := by
  rw [show beginR i true = ⟨1, i, [0, 1, 1, 0, 0, 0, 0, 0], 0⟩ from rfl]
  have hIs : (⟨1, i, [0, 1, 1, 0, 0, 0, 0, 0], 0⟩ : Rec).Is := ⟨by simp, by simp, h0, h1, by simp, by simp, by simp⟩
  exact ⟨hIs, by rw [bytes_len _ hIs]; simp, by simp, rfl⟩
end Go.Proofs.Ytfhddeghmlnobaa
