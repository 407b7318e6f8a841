/- What a judge reads of a request's records: all of them, some, one too many. No program in sight. And what follows from it. -/
import Derived.Test.YtniflggmfegnfaaDoorJudgePlain
/- What a judge reads of a request's records: all of them, some, one too many. No program in sight. -/
namespace Go.Proofs.YtniflggmfegnfaaDoor

theorem goes_step (r : JS) (base : List Snt) (s : Snt) (far : Int) (pp : Bs) (x : Rec) (f : Int) (hx : x.id ≠ 0) (ht : x.t ≠ 1) (hl : r.l = base ++ [s]) (hp : r.ids x.id = some ⟨base.length, far, pp⟩) :
    r.take x f = if (goS s far pp x).2.2.2 = 0 then (⟨base ++ [(goS s far pp x).1], r.frm, fun k => if k = x.id then some ⟨base.length, (goS s far pp x).2.1, (goS s far pp x).2.2.1⟩ else r.ids k⟩, 0) else (r, (goS s far pp x).2.2.2) := by
  unfold JS.take
  rw [if_neg hx, hp]
  simp only
  rw [if_neg ht]
  have e : r.l.getD base.length default = s := by rw [hl, List.getD_eq_getElem?_getD]; simp
  unfold JS.goes
  rw [e, hl]
  simp
theorem run_tail (base : List Snt) (i : Int) (hi : i ≠ 0) : ∀ (X : List Rec) (_ : ∀ x ∈ X, x.id = i ∧ x.t ≠ 1) (r : JS) (f : Int) (s : Snt) (far : Int) (pp : Bs), r.l = base ++ [s] → r.ids i = some ⟨base.length, far, pp⟩ →
    ∃ s' far' pp', (oneRun (some (s, far, pp)) X).1 = some (s', far', pp') ∧ (r.run f X).1.l = base ++ [s'] ∧ (r.run f X).1.frm = r.frm ∧ (r.run f X).1.ids i = some ⟨base.length, far', pp'⟩ ∧ (r.run f X).2 = (oneRun (some (s, far, pp)) X).2
  | [], _, r, f, s, far, pp, hl, hp => ⟨s, far, pp, rfl, hl, rfl, hp, rfl⟩
  | x :: X, hX, r, f, s, far, pp, hl, hp => by
    obtain ⟨hid, ht⟩ := hX x (by simp)
    subst hid
    have hs := goes_step r base s far pp x f hi ht hl hp
    rw [run_cons, oneRun_cons, hs]
    have ho : oneS (some (s, far, pp)) x = if (goS s far pp x).2.2.2 = 0 then (some ((goS s far pp x).1, (goS s far pp x).2.1, (goS s far pp x).2.2.1), 0) else (some (s, far, pp), (goS s far pp x).2.2.2) := by
      unfold oneS
      simp only
      rw [if_neg ht]
    rw [ho]
    by_cases hc : (goS s far pp x).2.2.2 = 0
    · rw [if_pos hc, if_pos hc]
      simp only [if_true]
      exact run_tail base x.id hi X (fun y hy => hX y (by simp [hy])) _ _ _ _ _ rfl (by simp)
    · rw [if_neg hc, if_neg hc]
      simp only
      rw [if_neg hc, if_neg hc]
      exact ⟨s, far, pp, rfl, hl, rfl, hp, rfl⟩

set_option maxRecDepth 100000 in
theorem rb_begin (i : Int) : rbC (beginR i true) = 0 ∧ rbN (beginR i true) = 1 ∧ rbK (beginR i true) = true ∧ (beginR i true).t = 1 ∧ (beginR i true).id = i := by
  have h : (beginR i true).t = 1 ∧ (beginR i true).c.length = 8 := ⟨rfl, rfl⟩
  refine ⟨?_, ?_, ?_, rfl, rfl⟩
  · unfold rbC; rw [if_pos h]
  · unfold rbN; rw [if_pos h]; rfl
  · unfold rbK; rw [if_pos h]; rfl
/-- A request is begun where there is none, or one that is over. -/
theorem begin_step (r : JS) (i f : Int) (hi : i ≠ 0) (hfree : ∀ p, r.ids i = some p → (r.l.getD p.pos default).whole = true ∨ (r.l.getD p.pos default).cut = true) :
    r.take (beginR i true) f = (⟨r.l ++ [Snt.new i], r.frm ++ [f], fun k => if k = i then some ⟨r.l.length, 1, []⟩ else r.ids k⟩, 0) := by
  obtain ⟨h1, h2, h3, h4, h5⟩ := rb_begin i
  have hb : r.begins (beginR i true) f = (⟨r.l ++ [Snt.new i], r.frm ++ [f], fun k => if k = i then some ⟨r.l.length, 1, []⟩ else r.ids k⟩, 0) := by
    unfold JS.begins
    rw [if_pos ⟨h1, h2, h3⟩, h5]
    rfl
  unfold JS.take
  rw [h5, if_neg hi, h4]
  cases hp : r.ids i with
  | none => simp only [if_true]; exact hb
  | some p =>
    simp only [if_true]
    rw [if_neg, hb]
    rintro ⟨a, b⟩
    rcases hfree p hp with h | h
    · rw [a] at h; cases h
    · rw [b] at h; cases h
theorem begin_busy (r : JS) (i f : Int) (hi : i ≠ 0) (p : Plc) (hp : r.ids i = some p) (h : (r.l.getD p.pos default).whole = false ∧ (r.l.getD p.pos default).cut = false) : (r.take (beginR i true) f).2 = 18 := by
  obtain ⟨h1, h2, h3, h4, h5⟩ := rb_begin i
  unfold JS.take
  rw [h5, if_neg hi, h4, hp]
  simp only [if_true]
  rw [if_pos h]
theorem first_bad (r : JS) (x : Rec) (f : Int) (hx : x.id ≠ 0) (ht : x.t ≠ 1) (hp : r.ids x.id = none) : (r.take x f).2 = 18 := by
  unfold JS.take
  rw [if_neg hx, hp]
  simp only
  rw [if_neg ht]

theorem run4 (i : Int) (S : Snt) (hS : S.cut = false) (s : Bs) : ∀ pp, (readP 0 (pp ++ s)).2 = 0 → oneRun (some (S, 1, pp)) (splitR 4 i s) = (some ({ S with pairs := (readP 0 (pp ++ s)).1 }, 2, pp ++ s), 0) := by
  fun_induction splitR 4 i s with
  | case1 =>
    intro pp hr
    rw [List.append_nil] at hr ⊢
    simp [oneRun, oneS, goS, hS, hr]
  | case2 s h ih =>
    intro pp hr
    have hc : s.take 512 ≠ [] := by
      intro e
      rw [List.take_eq_nil_iff] at e
      rcases e with e | e
      · omega
      · exact h e
    have e2 : (pp ++ s.take 512) ++ s.drop 512 = pp ++ s := by rw [List.append_assoc, List.take_append_drop]
    have := ih (pp ++ s.take 512) (by rw [e2]; exact hr)
    rw [e2] at this
    rw [oneRun_cons]
    have ho : oneS (some (S, 1, pp)) (⟨4, i, s.take 512, padN (min s.length 512)⟩ : Rec) = (some (S, 1, pp ++ s.take 512), 0) := by
      simp only [oneS, goS]
      simp [hS, hc]
    first
      | (rw [ho]; simp only [if_true]; exact this)
      | (rw [show oneS (some (S, 1, pp)) _ = (some (S, 1, pp ++ s.take 512), 0) from ho]; simp only [if_true]; exact this)
theorem run5 (i : Int) (pp : Bs) (s : Bs) : ∀ S : Snt, S.cut = false → oneRun (some (S, 2, pp)) (splitR 5 i s) = (some ({ S with body := S.body ++ s, whole := true }, 3, pp), 0) := by
  fun_induction splitR 5 i s with
  | case1 =>
    intro S hS
    simp [oneRun, oneS, goS, hS]
  | case2 s h ih =>
    intro S hS
    have hc : s.take 512 ≠ [] := by
      intro e
      rw [List.take_eq_nil_iff] at e
      rcases e with e | e
      · omega
      · exact h e
    have := ih ({ S with body := S.body ++ s.take 512 } : Snt) hS
    simp only [List.append_assoc, List.take_append_drop] at this
    rw [oneRun_cons]
    have ho : oneS (some (S, 2, pp)) (⟨5, i, s.take 512, padN (min s.length 512)⟩ : Rec) = (some ({ S with body := S.body ++ s.take 512 }, 2, pp), 0) := by
      simp only [oneS, goS]
      simp [hS, hc]
    first
      | (rw [ho]; simp only [if_true]; exact this)
      | (rw [show oneS (some (S, 2, pp)) _ = (some ({ S with body := S.body ++ s.take 512 }, 2, pp), 0) from ho]; simp only [if_true]; exact this)

theorem split_ids (t i : Int) (s : Bs) : ∀ r ∈ splitR t i s, r.t = t ∧ r.id = i := by
  fun_induction splitR t i s with
  | case1 => simp
  | case2 s h ih =>
    intro r hr
    rcases List.mem_cons.1 hr with rfl | hr
    · exact ⟨rfl, rfl⟩
    · exact ih r hr
/-- The stream's records: those that have content, and the empty one. -/
theorem split_snoc (t i : Int) (s : Bs) : ∃ C, splitR t i s = C ++ [⟨t, i, [], 0⟩] ∧ ∀ r ∈ C, r.t = t ∧ r.id = i ∧ r.c ≠ [] := by
  fun_induction splitR t i s with
  | case1 => exact ⟨[], by simp; try rfl, by simp⟩
  | case2 s h ih =>
    obtain ⟨C, h1, h2⟩ := ih
    refine ⟨_ :: C, by rw [h1]; rfl, ?_⟩
    intro r hr
    rcases List.mem_cons.1 hr with rfl | hr
    · refine ⟨rfl, rfl, ?_⟩
      simp only
      intro e
      rw [List.take_eq_nil_iff] at e
      rcases e with e | e
      · omega
      · exact h e
    · exact h2 r hr
def tailR (i : Int) (l : List (Bs × Bs)) (body : Bs) : List Rec := splitR 4 i (pairB l) ++ splitR 5 i body
theorem build_eq (i : Int) (l : List (Bs × Bs)) (body : Bs) : buildR i l body = beginR i true :: tailR i l body := rfl
theorem tail_ids (i : Int) (l : List (Bs × Bs)) (body : Bs) : ∀ x ∈ tailR i l body, x.id = i ∧ x.t ≠ 1 := by
  intro x hx
  rcases List.mem_append.1 hx with hx | hx
  · obtain ⟨h1, h2⟩ := split_ids 4 i _ x hx; exact ⟨h2, by rw [h1]; decide⟩
  · obtain ⟨h1, h2⟩ := split_ids 5 i _ x hx; exact ⟨h2, by rw [h1]; decide⟩
/-- What is read of a whole request behind its beginning. -/
theorem one_tail (i : Int) (l : List (Bs × Bs)) (body : Bs) (hP : readP 0 (pairB l) = (l, 0)) : oneRun (some (Snt.new i, 1, [])) (tailR i l body) = (some (⟨i, l, body, true, false⟩, 3, pairB l), 0) := by
  have h4 := run4 i (Snt.new i) rfl (pairB l) [] (by rw [List.nil_append, hP])
  rw [List.nil_append, hP] at h4
  unfold tailR
  rw [oneRun_append _ _ _ (by rw [h4]), h4]
  have h5 := run5 i (pairB l) body ({ Snt.new i with pairs := l } : Snt) rfl
  rw [h5]
  rfl
theorem run_begun (r : JS) (i f : Int) (hi : i ≠ 0) (hfree : ∀ p, r.ids i = some p → (r.l.getD p.pos default).whole = true ∨ (r.l.getD p.pos default).cut = true) (X : List Rec) (hX : ∀ x ∈ X, x.id = i ∧ x.t ≠ 1) :
    ∃ s' far' pp', (oneRun (some (Snt.new i, 1, [])) X).1 = some (s', far', pp') ∧ (r.run f (beginR i true :: X)).1.l = r.l ++ [s'] ∧ (r.run f (beginR i true :: X)).1.frm = r.frm ++ [f] ∧ (r.run f (beginR i true :: X)).1.ids i = some ⟨r.l.length, far', pp'⟩ ∧ (r.run f (beginR i true :: X)).2 = (oneRun (some (Snt.new i, 1, [])) X).2 := by
  rw [run_cons, begin_step r i f hi hfree]
  simp only [if_true]
  exact run_tail r.l i hi X hX _ _ _ _ _ rfl (by simp)
end Go.Proofs.YtniflggmfegnfaaDoor

/- What a judge reads of a request that is cut by an abort, left out of, doubled. No program in sight. -/
namespace Go.Proofs.YtniflggmfegnfaaDoor

def abtR (i : Int) : Rec := ⟨2, i, [], 0⟩
def InvS (s : Snt) (far : Int) : Prop := s.cut = false ∧ (s.whole = true ↔ far = 3)
theorem inv_new (i : Int) : InvS (Snt.new i) 1 := ⟨rfl, by simp [Snt.new]⟩
theorem inv_go (s : Snt) (far : Int) (pp : Bs) (x : Rec) (h : InvS s far) (h2 : x.t ≠ 2) : InvS (goS s far pp x).1 (goS s far pp x).2.1 := by
  obtain ⟨hc, hw⟩ := h
  unfold goS
  rw [if_neg (by simp [hc]), if_neg (by simp [h2])]
  split
  · exact ⟨hc, hw⟩
  next h3 =>
  split
  next h4 =>
    split
    · refine ⟨hc, ?_⟩
      simp only
      rw [hw, h4.2]
      decide
    · exact ⟨hc, hw⟩
  next h4 =>
  split
  next h5 =>
    split
    · exact ⟨hc, by simp⟩
    · exact ⟨hc, hw⟩
  · exact ⟨hc, hw⟩
theorem inv_run (X : List Rec) : ∀ (_ : ∀ x ∈ X, x.t ≠ 1 ∧ x.t ≠ 2) (s : Snt) (far : Int) (pp : Bs), InvS s far → (oneRun (some (s, far, pp)) X).2 = 0 → ∃ s' far' pp', oneRun (some (s, far, pp)) X = (some (s', far', pp'), 0) ∧ InvS s' far' := by
  induction X with
  | nil => intro _ s far pp h _; exact ⟨s, far, pp, rfl, h⟩
  | cons x X ih =>
    intro hX s far pp h h0
    obtain ⟨h1, h2⟩ := hX x (by simp)
    rw [oneRun_cons] at h0 ⊢
    have ho : oneS (some (s, far, pp)) x = if (goS s far pp x).2.2.2 = 0 then (some ((goS s far pp x).1, (goS s far pp x).2.1, (goS s far pp x).2.2.1), 0) else (some (s, far, pp), (goS s far pp x).2.2.2) := by
      unfold oneS
      simp only
      rw [if_neg h1]
    rw [ho] at h0 ⊢
    by_cases hc : (goS s far pp x).2.2.2 = 0
    · rw [if_pos hc] at h0 ⊢
      simp only [if_true] at h0 ⊢
      exact ih (fun y hy => hX y (by simp [hy])) _ _ _ (inv_go s far pp x h h2) h0
    · rw [if_neg hc] at h0
      simp only at h0
      rw [if_neg hc] at h0
      exact absurd h0 hc
theorem whole_more (s : Snt) (pp : Bs) (x : Rec) (h : s.cut = false) (h1 : x.t ≠ 1) (h2 : x.t ≠ 2) : (oneS (some (s, 3, pp)) x).2 = 18 := by
  have hg : goS s 3 pp x = (s, 3, pp, 18) := by
    unfold goS
    rw [if_neg (by simp [h]), if_neg (by simp [h2]), if_neg (fun h => absurd h.2.1 (by decide)), if_neg (fun h => absurd h.2 (by decide)), if_neg (fun h => absurd h.2 (by decide))]
  unfold oneS
  simp only
  rw [if_neg h1, hg]
  simp
theorem tail_t (i : Int) (l : List (Bs × Bs)) (body : Bs) : ∀ x ∈ tailR i l body, x.t ≠ 1 ∧ x.t ≠ 2 := by
  intro x hx
  rcases List.mem_append.1 hx with hx | hx
  · obtain ⟨h1, h2⟩ := split_ids 4 i _ x hx; rw [h1]; decide
  · obtain ⟨h1, h2⟩ := split_ids 5 i _ x hx; rw [h1]; decide
/-- A beginning of a request's records: what is read of it. -/
theorem part_tail (i : Int) (l : List (Bs × Bs)) (body : Bs) (hP : readP 0 (pairB l) = (l, 0)) (k : Nat) (hk : k ≤ (tailR i l body).length) :
    ∃ s far pp, oneRun (some (Snt.new i, 1, [])) ((tailR i l body).take k) = (some (s, far, pp), 0) ∧ s.cut = false ∧ s.whole = decide (k = (tailR i l body).length) := by
  have hw := one_tail i l body hP
  have hpre : ∀ m, (oneRun (some (Snt.new i, 1, [])) ((tailR i l body).take m)).2 = 0 := fun m => oneRun_prefix _ _ ((tailR i l body).drop m) (by rw [List.take_append_drop, hw])
  obtain ⟨s, far, pp, h1, h2, h3⟩ := inv_run ((tailR i l body).take k) (fun x hx => tail_t i l body x (List.mem_of_mem_take hx)) (Snt.new i) 1 [] (inv_new i) (hpre k)
  refine ⟨s, far, pp, h1, h2, ?_⟩
  by_cases hkl : k = (tailR i l body).length
  · rw [decide_eq_true hkl]
    rw [hkl, List.take_length, hw] at h1
    simp at h1
    rw [← h1.1]
  · have hlt : k < (tailR i l body).length := by omega
    rw [decide_eq_false hkl]
    have hn := hpre (k + 1)
    rw [List.take_succ_eq_append_getElem hlt, oneRun_append _ _ _ (hpre k), h1, oneRun_cons] at hn
    obtain ⟨t1, t2⟩ := tail_t i l body _ (List.getElem_mem hlt)
    cases hwh : s.whole with
    | false => rfl
    | true =>
      have hf := h3.1 hwh
      subst hf
      rw [if_neg (by rw [whole_more s pp _ h2 t1 t2]; decide), whole_more s pp _ h2 t1 t2] at hn
      cases hn

section
variable (l : List (Bs × Bs)) (body : Bs)
theorem cut_one (hP : readP 0 (pairB l) = (l, 0)) (k : Nat) (hk : k ≤ (tailR 1 l body).length) :
    ∃ s far pp, (JS.empty.run 0 (beginR 1 true :: ((tailR 1 l body).take k ++ [abtR 1]))).2 = 0 ∧ (JS.empty.run 0 (beginR 1 true :: ((tailR 1 l body).take k ++ [abtR 1]))).1.l = [s] ∧ s.id = 1 ∧ s.cut = true ∧ s.whole = decide (k = (tailR 1 l body).length) ∧ (JS.empty.run 0 (beginR 1 true :: ((tailR 1 l body).take k ++ [abtR 1]))).1.ids 1 = some ⟨0, far, pp⟩ := by
  obtain ⟨s, far, pp, h1, h2, h3⟩ := part_tail 1 l body hP k hk
  have hX : ∀ x ∈ (tailR 1 l body).take k ++ [abtR 1], x.id = 1 ∧ x.t ≠ 1 := by
    intro x hx
    rcases List.mem_append.1 hx with hx | hx
    · exact tail_ids 1 l body x (List.mem_of_mem_take hx)
    · simp at hx; subst hx; exact ⟨rfl, by decide⟩
  obtain ⟨s', far', pp', e1, e2, e3, e4, e5⟩ := run_begun JS.empty 1 0 (by decide) (fun p hp => by cases hp) _ hX
  have ho : oneRun (some (Snt.new 1, 1, [])) ((tailR 1 l body).take k ++ [abtR 1]) = (some ({ s with cut := true }, far, pp), 0) := by
    rw [oneRun_append _ _ _ (by rw [h1]), h1]
    simp [oneRun, oneS, goS, abtR, h2]
  have hok := ok_run ok_empty 0 (beginR 1 true :: ((tailR 1 l body).take k ++ [abtR 1]))
  rw [ho] at e1 e5
  simp at e1
  obtain ⟨rfl, rfl, rfl⟩ := e1
  refine ⟨_, far, pp, e5, e2, ?_, rfl, h3, e4⟩
  have := (hok.2 1 _ e4).2
  rw [e2] at this
  simpa [JS.empty] using this
theorem cut_more (hP : readP 0 (pairB l) = (l, 0)) (k : Nat) (hk : k ≤ (tailR 1 l body).length) (x : Rec) (hx : x.id = 1) (ht : x.t ≠ 1) :
    (JS.empty.run 0 ((beginR 1 true :: ((tailR 1 l body).take k ++ [abtR 1])) ++ [x])).2 = 18 := by
  obtain ⟨s, far, pp, h1, h2, h3, h4, h5, h6⟩ := cut_one l body hP k hk
  rw [run_append _ _ _ _ h1, run_cons]
  have := goes_step _ [] s far pp x (0 + (allBytes (beginR 1 true :: ((tailR 1 l body).take k ++ [abtR 1]))).length) (by rw [hx]; decide) ht h2 (by rw [hx]; exact h6)
  have hg : (goS s far pp x).2.2.2 = 18 := by unfold goS; rw [if_pos h4]
  rw [hg] at this
  simp only [show ¬ ((18 : Int) = 0) by decide, if_false] at this
  rw [this]
  simp
theorem cut_again (hP : readP 0 (pairB l) = (l, 0)) (k : Nat) (hk : k ≤ (tailR 1 l body).length) :
    ∃ s, (JS.empty.run 0 ((beginR 1 true :: ((tailR 1 l body).take k ++ [abtR 1])) ++ [beginR 1 true])).2 = 0 ∧ (JS.empty.run 0 ((beginR 1 true :: ((tailR 1 l body).take k ++ [abtR 1])) ++ [beginR 1 true])).1.l = [s, Snt.new 1] := by
  obtain ⟨s, far, pp, h1, h2, h3, h4, h5, h6⟩ := cut_one l body hP k hk
  rw [run_append _ _ _ _ h1, run_cons, begin_step _ 1 _ (by decide)]
  · refine ⟨s, ?_⟩
    rw [h2]
    simp [JS.run]
  · intro p hp
    rw [h6] at hp
    cases hp
    rw [h2]
    exact .inr (by simpa using h4)
end
end Go.Proofs.YtniflggmfegnfaaDoor

/- A whole request's records: what is read of them, right ones, how many bytes. No program in sight. -/
namespace Go.Proofs.YtniflggmfegnfaaDoor

theorem run_whole (r : JS) (i f : Int) (hi : i ≠ 0) (hfree : ∀ p, r.ids i = some p → (r.l.getD p.pos default).whole = true ∨ (r.l.getD p.pos default).cut = true) (l : List (Bs × Bs)) (body : Bs) (hP : readP 0 (pairB l) = (l, 0)) :
    (r.run f (buildR i l body)).2 = 0 ∧ (r.run f (buildR i l body)).1.l = r.l ++ [⟨i, l, body, true, false⟩] ∧ (r.run f (buildR i l body)).1.frm = r.frm ++ [f] ∧ (r.run f (buildR i l body)).1.ids i = some ⟨r.l.length, 3, pairB l⟩ := by
  obtain ⟨s', far', pp', e1, e2, e3, e4, e5⟩ := run_begun r i f hi hfree _ (tail_ids i l body)
  rw [one_tail i l body hP] at e1 e5
  simp at e1
  obtain ⟨rfl, rfl, rfl⟩ := e1
  exact ⟨e5, e2, e3, e4⟩
theorem one_pair (x y : Bs) (hx : x.length ≤ 2147483647) (hy : y.length ≤ 2147483647) : readP 0 (pairB [(x, y)]) = ([(x, y)], 0) := readP_pairs [(x, y)] 0 (by intro p hp; simp at hp; subst hp; exact ⟨hx, hy⟩) (by simp)

theorem pad_lo (n : Int) : 0 ≤ padN n ∧ padN n ≤ 255 := by unfold padN; omega
theorem split_is (t i : Int) (ht : 1 ≤ t ∧ t ≤ 255) (hi : 0 ≤ i ∧ i ≤ 65535) (s : Bs) : ∀ r ∈ splitR t i s, r.Is := by
  fun_induction splitR t i s with
  | case1 => intro r hr; simp at hr; subst hr; exact ⟨ht.1, ht.2, hi.1, hi.2, by simp, by simp, by simp⟩
  | case2 s h ih =>
    intro r hr
    rcases List.mem_cons.1 hr with rfl | hr
    · have := pad_lo (min (s.length : Int) 512)
      exact ⟨ht.1, ht.2, hi.1, hi.2, by simp only [List.length_take]; omega, this.1, this.2⟩
    · exact ih r hr
theorem begin_is (i : Int) (hi : 0 ≤ i ∧ i ≤ 65535) : (beginR i true).Is := by
  have h : (beginR i true).c.length = 8 := rfl
  exact ⟨show (1 : Int) ≤ 1 by decide, show (1 : Int) ≤ 255 by decide, hi.1, hi.2, by rw [h]; decide, show (0 : Int) ≤ 0 by decide, show (0 : Int) ≤ 255 by decide⟩
theorem build_is (i : Int) (hi : 0 ≤ i ∧ i ≤ 65535) (l : List (Bs × Bs)) (body : Bs) : ∀ r ∈ buildR i l body, r.Is := by
  intro r hr
  rw [build_eq] at hr
  rcases List.mem_cons.1 hr with rfl | hr
  · exact begin_is i hi
  rcases List.mem_append.1 hr with hr | hr
  · exact split_is 4 i (by decide) hi _ r hr
  · exact split_is 5 i (by decide) hi _ r hr
theorem bytes_len (r : Rec) (h : r.Is) : r.bytes.length = 8 + r.c.length + r.p.toNat := by
  unfold Rec.bytes
  rw [if_pos h]
  simp [two]
  omega
theorem split_bytes (t i : Int) (ht : 1 ≤ t ∧ t ≤ 255) (hi : 0 ≤ i ∧ i ≤ 65535) (s : Bs) : (allBytes (splitR t i s)).length ≤ 16 * s.length + 16 := by
  fun_induction splitR t i s with
  | case1 => rw [allBytes_cons, List.length_append, bytes_len _ ⟨ht.1, ht.2, hi.1, hi.2, by simp, by simp, by simp⟩]; simp [allBytes]
  | case2 s h ih =>
    have hp := pad_lo (min (s.length : Int) 512)
    have hp7 : padN (min (s.length : Int) 512) ≤ 7 := by unfold padN; omega
    have hpos : 0 < s.length := List.length_pos_iff.2 h
    rw [allBytes_cons, List.length_append, bytes_len _ ⟨ht.1, ht.2, hi.1, hi.2, by simp only [List.length_take]; omega, hp.1, hp.2⟩]
    simp only [List.length_take, List.length_drop] at ih ⊢
    omega
theorem allBytes_app (a b : List Rec) : allBytes (a ++ b) = allBytes a ++ allBytes b := by unfold allBytes; rw [List.flatMap_append]
theorem build_bytes (i : Int) (hi : 0 ≤ i ∧ i ≤ 65535) (l : List (Bs × Bs)) (body : Bs) : (allBytes (buildR i l body)).length ≤ 16 * (pairB l).length + 16 * body.length + 48 := by
  have h1 := split_bytes 4 i (by decide) hi (pairB l)
  have h2 := split_bytes 5 i (by decide) hi body
  have h3 : (beginR i true).bytes.length = 16 := by rw [bytes_len _ (begin_is i hi)]; rfl
  rw [build_eq, allBytes_cons, tailR, List.length_append, allBytes_app, List.length_append, h3]
  omega
end Go.Proofs.YtniflggmfegnfaaDoor
