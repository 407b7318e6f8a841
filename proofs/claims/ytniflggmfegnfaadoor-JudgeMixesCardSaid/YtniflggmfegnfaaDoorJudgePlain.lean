/- What a judge reads of records: requests, record by record. No program in sight. -/
import Derived.Test.YtniflggmfegnfaaDoorPairPlain
import Derived.Test.YtniflggmfegnfaaDoorCutLaws
import Derived.Test.YtniflggmfegnfaaDoorRdBegin
import Derived.Test.YtniflggmfegnfaaDoorBuild
namespace Go.Proofs.YtniflggmfegnfaaDoor

/-- A request that was begun. -/
structure Snt where
  id : Int
  pairs : List (Bs × Bs)
  body : Bs
  whole : Bool
  cut : Bool
instance : Inhabited Snt := ⟨⟨0, [], [], false, false⟩⟩
/-- Where it is: its place, how far, its parameters' bytes. -/
structure Plc where
  pos : Nat
  far : Int
  params : Bs
/-- The requests, where each began, the last one of each id. -/
structure JS where
  l : List Snt
  frm : List Int
  ids : Int → Option Plc
def JS.empty : JS := ⟨[], [], fun _ => Option.none⟩

/-- A record of a request: the request, how far, its parameters, the error's number. -/
def goS (s : Snt) (far : Int) (params : Bs) (x : Rec) : Snt × Int × Bs × Int :=
  if s.cut = true then (s, far, params, 18)
  else if x.t = 2 ∧ x.c = [] then ({ s with cut := true }, far, params, 0)
  else if x.t = 4 ∧ far = 1 ∧ x.c ≠ [] then (s, far, params ++ x.c, 0)
  else if x.t = 4 ∧ far = 1 then (if (readP 0 params).2 = 0 then ({ s with pairs := (readP 0 params).1 }, 2, params, 0) else (s, far, params, (readP 0 params).2))
  else if x.t = 5 ∧ far = 2 then (if x.c = [] then ({ s with body := s.body ++ x.c, whole := true }, 3, params, 0) else ({ s with body := s.body ++ x.c }, far, params, 0))
  else (s, far, params, 18)
def JS.begins (r : JS) (x : Rec) (f : Int) : JS × Int :=
  if rbC x = 0 ∧ rbN x = 1 ∧ rbK x = true then (⟨r.l ++ [⟨x.id, [], [], false, false⟩], r.frm ++ [f], fun k => if k = x.id then some ⟨r.l.length, 1, []⟩ else r.ids k⟩, 0) else (r, 18)
def JS.goes (r : JS) (x : Rec) (p : Plc) : JS × Int :=
  if (goS (r.l.getD p.pos default) p.far p.params x).2.2.2 = 0 then
    (⟨r.l.set p.pos (goS (r.l.getD p.pos default) p.far p.params x).1, r.frm, fun k => if k = x.id then some ⟨p.pos, (goS (r.l.getD p.pos default) p.far p.params x).2.1, (goS (r.l.getD p.pos default) p.far p.params x).2.2.1⟩ else r.ids k⟩, 0)
  else (r, (goS (r.l.getD p.pos default) p.far p.params x).2.2.2)
def JS.take (r : JS) (x : Rec) (f : Int) : JS × Int :=
  if x.id = 0 then (r, 18)
  else match r.ids x.id with
    | Option.none => if x.t = 1 then r.begins x f else (r, 18)
    | some p => if x.t = 1 then (if (r.l.getD p.pos default).whole = false ∧ (r.l.getD p.pos default).cut = false then (r, 18) else r.begins x f) else r.goes x p
/-- Records one behind the other, the first one at a place. -/
def JS.run (r : JS) (f : Int) : List Rec → JS × Int
  | [] => (r, 0)
  | x :: l => if (r.take x f).2 = 0 then (r.take x f).1.run (f + x.bytes.length) l else ((r.take x f).1, (r.take x f).2)

theorem run_cons (r : JS) (f : Int) (x : Rec) (l : List Rec) : r.run f (x :: l) = if (r.take x f).2 = 0 then (r.take x f).1.run (f + x.bytes.length) l else ((r.take x f).1, (r.take x f).2) := rfl
theorem run_append (r : JS) (f : Int) (a b : List Rec) (h : (r.run f a).2 = 0) : r.run f (a ++ b) = (r.run f a).1.run (f + (allBytes a).length) b := by
  induction a generalizing r f with
  | nil => simp [JS.run, allBytes]
  | cons x a ih =>
    rw [List.cons_append]
    rw [run_cons] at h
    rw [run_cons, run_cons]
    by_cases hx : (r.take x f).2 = 0
    · rw [if_pos hx] at h
      rw [if_pos hx, if_pos hx, ih _ _ h, allBytes_cons, List.length_append]
      congr 1
      omega
    · rw [if_neg hx] at h
      exact absurd h hx
theorem run_prefix (r : JS) (f : Int) (a b : List Rec) (h : (r.run f (a ++ b)).2 = 0) : (r.run f a).2 = 0 := by
  induction a generalizing r f with
  | nil => rfl
  | cons x a ih =>
    rw [List.cons_append] at h
    rw [run_cons] at h ⊢
    by_cases hx : (r.take x f).2 = 0
    · rw [if_pos hx] at h ⊢
      exact ih _ _ h
    · rw [if_neg hx] at h
      exact absurd h hx

/-- The last request of an id, and how far it is. -/
def JS.at_ (r : JS) (i : Int) : Option (Snt × Int × Bs) := (r.ids i).map fun p => (r.l.getD p.pos default, p.far, p.params)
/-- Of each id the request lies at a place of its own. -/
def JS.Ok (r : JS) : Prop := r.frm.length = r.l.length ∧ (∀ i p, r.ids i = some p → p.pos < r.l.length ∧ (r.l.getD p.pos default).id = i)
theorem ok_empty : JS.empty.Ok := ⟨rfl, fun i p h => by cases h⟩

theorem goS_id (s : Snt) (far : Int) (params : Bs) (x : Rec) : (goS s far params x).1.id = s.id := by
  unfold goS
  split
  · rfl
  split
  · rfl
  split
  · rfl
  split
  · split <;> rfl
  split
  · split <;> rfl
  · rfl
theorem getD_set (l : List Snt) (i j : Nat) (s : Snt) (hj : i < l.length) : (l.set i s).getD j default = if j = i then s else l.getD j default := by
  simp only [List.getD_eq_getElem?_getD, List.getElem?_set]
  split
  next h => subst h; simp [hj]
  next h => rw [if_neg (fun e => h e.symm)]
theorem getD_snoc (l : List Snt) (j : Nat) (s : Snt) : (l ++ [s]).getD j default = if j = l.length then s else l.getD j default := by
  simp only [List.getD_eq_getElem?_getD]
  split
  next h => subst h; simp
  next h =>
    rcases Nat.lt_or_ge j l.length with hlt | hge
    · rw [List.getElem?_append_left hlt]
    · rw [List.getElem?_eq_none (by simp; omega), List.getElem?_eq_none (by omega)]

theorem ok_take {r : JS} (h : r.Ok) (x : Rec) (f : Int) : (r.take x f).1.Ok := by
  obtain ⟨h0, h1⟩ := h
  have hb : (r.begins x f).1.Ok := by
    unfold JS.begins
    split
    · refine ⟨by simp [h0], ?_⟩
      intro i p hp
      simp only at hp ⊢
      split at hp
      next e =>
        cases hp
        subst e
        refine ⟨by simp, ?_⟩
        rw [getD_snoc, if_pos rfl]
      next e =>
        obtain ⟨a, b⟩ := h1 i p hp
        refine ⟨by simp; omega, ?_⟩
        rw [getD_snoc, if_neg (by omega)]
        exact b
    · exact ⟨h0, h1⟩
  unfold JS.take
  split
  · exact ⟨h0, h1⟩
  split
  · split
    · exact hb
    · exact ⟨h0, h1⟩
  next p hp =>
    split
    · split
      · exact ⟨h0, h1⟩
      · exact hb
    unfold JS.goes
    split
    · obtain ⟨a, b⟩ := h1 _ _ hp
      refine ⟨by simp [h0], ?_⟩
      intro i q hq
      simp only [List.length_set] at hq ⊢
      split at hq
      next e =>
        cases hq
        subst e
        refine ⟨a, ?_⟩
        rw [getD_set _ _ _ _ a, if_pos rfl, goS_id]
        exact b
      next e =>
        obtain ⟨c, d⟩ := h1 i q hq
        refine ⟨c, ?_⟩
        rw [getD_set _ _ _ _ a]
        split
        next e2 => rw [e2, b] at d; exact absurd d.symm e
        next e2 => exact d
    · exact ⟨h0, h1⟩
theorem ok_run {r : JS} (h : r.Ok) (f : Int) (l : List Rec) : (r.run f l).1.Ok := by
  induction l generalizing r f with
  | nil => exact h
  | cons x l ih =>
    unfold JS.run
    split
    · exact ih (ok_take h x f) _
    · exact ok_take h x f

/-- A begun request. -/
def Snt.new (i : Int) : Snt := ⟨i, [], [], false, false⟩
/-- A step as one id sees it. -/
def oneS (o : Option (Snt × Int × Bs)) (x : Rec) : Option (Snt × Int × Bs) × Int :=
  match o with
  | Option.none => if x.t = 1 ∧ rbC x = 0 ∧ rbN x = 1 ∧ rbK x = true then (some (Snt.new x.id, 1, []), 0) else (o, 18)
  | some (s, far, params) => if x.t = 1 then (if s.whole = false ∧ s.cut = false then (o, 18) else if rbC x = 0 ∧ rbN x = 1 ∧ rbK x = true then (some (Snt.new x.id, 1, []), 0) else (o, 18))
    else if (goS s far params x).2.2.2 = 0 then (some ((goS s far params x).1, (goS s far params x).2.1, (goS s far params x).2.2.1), 0) else (o, (goS s far params x).2.2.2)

theorem take_at {r : JS} (h : r.Ok) (x : Rec) (f : Int) (hx : x.id ≠ 0) :
    (r.take x f).2 = (oneS (r.at_ x.id) x).2 ∧ (∀ i, (r.take x f).1.at_ i = if i = x.id then (oneS (r.at_ x.id) x).1 else r.at_ i) := by
  obtain ⟨h0, h1⟩ := h
  have hsnoc : ∀ i p, r.ids i = some p → (r.l ++ [Snt.new x.id]).getD p.pos default = r.l.getD p.pos default := by
    intro i p hp
    rw [getD_snoc, if_neg]
    have := (h1 i p hp).1
    omega
  have hb : (∀ i, (r.begins x f).1.at_ i = if i = x.id then (if rbC x = 0 ∧ rbN x = 1 ∧ rbK x = true then some (Snt.new x.id, 1, []) else r.at_ x.id) else r.at_ i) := by
    intro i
    unfold JS.begins
    by_cases hg : rbC x = 0 ∧ rbN x = 1 ∧ rbK x = true
    · rw [if_pos hg, if_pos hg]
      unfold JS.at_
      simp only
      by_cases e : i = x.id
      · rw [if_pos e, if_pos e]
        simp only [Option.map_some, Option.some.injEq, Prod.mk.injEq, and_true]
        rw [getD_snoc, if_pos rfl]
        rfl
      · rw [if_neg e, if_neg e]
        cases hp : r.ids i with
        | none => rfl
        | some p =>
          simp only [Option.map_some, Option.some.injEq, Prod.mk.injEq, and_true]
          exact hsnoc i p hp
    · rw [if_neg hg, if_neg hg]
      by_cases e : i = x.id
      · rw [if_pos e, e]
      · rw [if_neg e]
  have hb2 : (r.begins x f).2 = if rbC x = 0 ∧ rbN x = 1 ∧ rbK x = true then 0 else 18 := by
    unfold JS.begins
    split <;> rfl
  unfold JS.take
  rw [if_neg hx]
  cases hp : r.ids x.id with
  | none =>
    have ha : r.at_ x.id = Option.none := by unfold JS.at_; rw [hp]; rfl
    simp only [ha, oneS]
    by_cases ht : x.t = 1
    · rw [if_pos ht, hb2]
      refine ⟨?_, fun i => ?_⟩
      · by_cases hg : rbC x = 0 ∧ rbN x = 1 ∧ rbK x = true
        · have e1 : x.t = 1 ∧ rbC x = 0 ∧ rbN x = 1 ∧ rbK x = true := ⟨ht, hg⟩
          rw [if_pos hg, if_pos e1]
        · have e1 : ¬ (x.t = 1 ∧ rbC x = 0 ∧ rbN x = 1 ∧ rbK x = true) := fun h => hg h.2
          rw [if_neg hg, if_neg e1]
      · rw [hb i, ha]
        by_cases hg : rbC x = 0 ∧ rbN x = 1 ∧ rbK x = true
        · have e1 : x.t = 1 ∧ rbC x = 0 ∧ rbN x = 1 ∧ rbK x = true := ⟨ht, hg⟩
          rw [if_pos hg, if_pos e1]
        · have e1 : ¬ (x.t = 1 ∧ rbC x = 0 ∧ rbN x = 1 ∧ rbK x = true) := fun h => hg h.2
          rw [if_neg hg, if_neg e1]
    · have e1 : ¬ (x.t = 1 ∧ rbC x = 0 ∧ rbN x = 1 ∧ rbK x = true) := fun h => ht h.1
      rw [if_neg ht, if_neg e1]
      refine ⟨rfl, fun i => ?_⟩
      simp only
      split
      next e => rw [e, ha]
      next e => rfl
  | some p =>
    have ha : r.at_ x.id = some (r.l.getD p.pos default, p.far, p.params) := by unfold JS.at_; rw [hp]; rfl
    obtain ⟨a, b⟩ := h1 _ _ hp
    simp only [ha, oneS]
    generalize hs : r.l.getD p.pos default = s at *
    by_cases ht : x.t = 1
    · rw [if_pos ht, if_pos ht]
      by_cases hw : s.whole = false ∧ s.cut = false
      · rw [if_pos hw, if_pos hw]
        refine ⟨rfl, fun i => ?_⟩
        simp only
        split
        next e => rw [e, ha]
        next e => rfl
      · rw [if_neg hw, if_neg hw, hb2]
        refine ⟨?_, fun i => ?_⟩
        · split <;> rfl
        · rw [hb i, ha]
          by_cases hg : rbC x = 0 ∧ rbN x = 1 ∧ rbK x = true
          · rw [if_pos hg, if_pos hg]
          · rw [if_neg hg, if_neg hg]
    · rw [if_neg ht, if_neg ht]
      unfold JS.goes
      rw [hs]
      by_cases hc : (goS s p.far p.params x).2.2.2 = 0
      · rw [if_pos hc, if_pos hc]
        refine ⟨rfl, fun i => ?_⟩
        unfold JS.at_
        simp only
        by_cases e : i = x.id
        · rw [if_pos e, if_pos e]
          simp only [Option.map_some, Option.some.injEq, Prod.mk.injEq, and_true]
          rw [getD_set _ _ _ _ a, if_pos rfl]
        · rw [if_neg e, if_neg e]
          cases hq : r.ids i with
          | none => rfl
          | some q =>
            simp only [Option.map_some, Option.some.injEq, Prod.mk.injEq, and_true]
            rw [getD_set _ _ _ _ a, if_neg]
            intro e2
            have d := (h1 i q hq).2
            rw [e2, hs] at d
            exact e (d.symm.trans b)
      · rw [if_neg hc, if_neg hc]
        refine ⟨rfl, fun i => ?_⟩
        simp only
        split
        next e => rw [e, ha]
        next e => rfl

/-- Records of one id, one behind the other. -/
def oneRun (o : Option (Snt × Int × Bs)) : List Rec → Option (Snt × Int × Bs) × Int
  | [] => (o, 0)
  | x :: l => if (oneS o x).2 = 0 then oneRun (oneS o x).1 l else oneS o x
theorem oneRun_cons (o : Option (Snt × Int × Bs)) (x : Rec) (l : List Rec) : oneRun o (x :: l) = if (oneS o x).2 = 0 then oneRun (oneS o x).1 l else oneS o x := rfl
theorem oneRun_append (o : Option (Snt × Int × Bs)) (a b : List Rec) (h : (oneRun o a).2 = 0) : oneRun o (a ++ b) = oneRun (oneRun o a).1 b := by
  induction a generalizing o with
  | nil => rfl
  | cons x a ih =>
    rw [List.cons_append]
    rw [oneRun_cons] at h
    rw [oneRun_cons, oneRun_cons]
    by_cases hx : (oneS o x).2 = 0
    · rw [if_pos hx] at h
      rw [if_pos hx, if_pos hx, ih _ h]
    · rw [if_neg hx] at h
      exact absurd h hx
theorem oneRun_prefix (o : Option (Snt × Int × Bs)) (a b : List Rec) (h : (oneRun o (a ++ b)).2 = 0) : (oneRun o a).2 = 0 := by
  induction a generalizing o with
  | nil => rfl
  | cons x a ih =>
    rw [List.cons_append] at h
    rw [oneRun_cons] at h ⊢
    by_cases hx : (oneS o x).2 = 0
    · rw [if_pos hx] at h ⊢
      exact ih _ h
    · rw [if_neg hx] at h
      exact absurd h hx

/-- Mixed records are to each id what its own are: where each id's own may be so, so may be all. -/
theorem run_mix {r : JS} (h : r.Ok) (f : Int) (l : List Rec) (hid : ∀ x ∈ l, x.id ≠ 0) (hg : ∀ i, (oneRun (r.at_ i) (l.filter fun x => x.id == i)).2 = 0) :
    (r.run f l).2 = 0 ∧ ∀ i, (r.run f l).1.at_ i = (oneRun (r.at_ i) (l.filter fun x => x.id == i)).1 := by
  induction l generalizing r f with
  | nil => exact ⟨rfl, fun i => rfl⟩
  | cons x l ih =>
    obtain ⟨h1, h2⟩ := take_at h x f (hid x (by simp))
    have hx := hg x.id
    rw [List.filter_cons_of_pos (by simp)] at hx
    rw [oneRun_cons] at hx
    have hx0 : (oneS (r.at_ x.id) x).2 = 0 := by
      by_cases e : (oneS (r.at_ x.id) x).2 = 0
      · exact e
      · rw [if_neg e] at hx; exact absurd hx e
    have hstep : ∀ i, oneRun (r.at_ i) ((x :: l).filter fun y => y.id == i) = oneRun ((r.take x f).1.at_ i) (l.filter fun y => y.id == i) := by
      intro i
      rw [h2 i]
      by_cases e : i = x.id
      · subst e
        rw [List.filter_cons_of_pos (by simp), if_pos rfl]
        show (if (oneS (r.at_ x.id) x).2 = 0 then _ else _) = _
        rw [if_pos hx0]
      · rw [List.filter_cons_of_neg (by simpa using fun e2 => e e2.symm), if_neg e]
    rw [run_cons, h1, if_pos hx0]
    obtain ⟨h3, h4⟩ := ih (ok_take h x f) (f + x.bytes.length) (fun y hy => hid y (by simp [hy])) (fun i => by rw [← hstep i]; exact hg i)
    exact ⟨h3, fun i => by rw [h4 i, ← hstep i]⟩
/-- Records of one id. -/
theorem run_one {r : JS} (h : r.Ok) (f i : Int) (hi : i ≠ 0) (l : List Rec) (hid : ∀ x ∈ l, x.id = i) :
    (r.run f l).2 = (oneRun (r.at_ i) l).2 ∧ (r.run f l).1.at_ i = (oneRun (r.at_ i) l).1 := by
  induction l generalizing r f with
  | nil => exact ⟨rfl, rfl⟩
  | cons x l ih =>
    obtain rfl := hid x (by simp)
    obtain ⟨h1, h2⟩ := take_at h x f hi
    rw [run_cons, oneRun_cons, h1]
    by_cases e : (oneS (r.at_ x.id) x).2 = 0
    · rw [if_pos e, if_pos e]
      obtain ⟨h3, h4⟩ := ih (ok_take h x f) (f + x.bytes.length) (fun y hy => hid y (by simp [hy]))
      rw [h3, h4, h2 x.id, if_pos rfl]
      exact ⟨rfl, rfl⟩
    · rw [if_neg e, if_neg e]
      exact ⟨rfl, by rw [h2 x.id, if_pos rfl]⟩
/-- How many requests there are: one more at each beginning. -/
theorem run_count (r : JS) (f : Int) (l : List Rec) (h : (r.run f l).2 = 0) : (r.run f l).1.l.length = r.l.length + (l.filter fun x => x.t == 1).length := by
  induction l generalizing r f with
  | nil => simp [JS.run]
  | cons x l ih =>
    rw [run_cons] at h ⊢
    by_cases e : (r.take x f).2 = 0
    · rw [if_pos e] at h ⊢
      rw [ih _ _ h]
      have : (r.take x f).1.l.length = r.l.length + if x.t = 1 then 1 else 0 := by
        have hb : (r.begins x f).2 = 0 → (r.begins x f).1.l.length = r.l.length + 1 := by
          intro h
          unfold JS.begins at h ⊢
          split at h
          next hh => rw [if_pos hh]; simp
          next hh => cases h
        unfold JS.take at e ⊢
        by_cases h0 : x.id = 0
        · rw [if_pos h0] at e; cases e
        rw [if_neg h0] at e ⊢
        split at e
        · split at e
          next ht => rw [if_pos ht, if_pos ht]; exact hb e
          next ht => cases e
        next p hp =>
          split at e
          next ht =>
            rw [if_pos ht, if_pos ht]
            split at e
            · cases e
            next hw => rw [if_neg hw]; exact hb e
          next ht =>
            rw [if_neg ht, if_neg ht]
            unfold JS.goes at e ⊢
            split at e
            next hc => rw [if_pos hc]; simp
            next hc => exact absurd e hc
      rw [this, List.filter_cons]
      split <;> simp_all <;> omega
    · rw [if_neg e] at h
      exact absurd h e
end Go.Proofs.YtniflggmfegnfaaDoor
