/- A rule for a region that draws its order: each operation is walked once, in whatever world its turn comes. No condition. -/
import Derived.Orders
import Derived.Below
namespace Go.Proofs.Ytihfibelklhkbaa.Rg

/-- w' is w, but for new blocks and for what lies in the blocks of M. -/
structure Step (M : Nat → Prop) (w w' : World) : Prop where
  os : w'.os = w.os
  tape : w'.tape = w.tape
  output : w'.output = w.output
  size : w.heap.size ≤ w'.heap.size
  block : ∀ k, k < w.heap.size → ¬ M k → w'.heap[k]? = w.heap[k]?

theorem Step.refl (M : Nat → Prop) (w : World) : Step M w w := ⟨rfl, rfl, rfl, Nat.le_refl _, fun _ _ _ => rfl⟩
theorem Step.trans {M : Nat → Prop} {a b c : World} (h : Step M a b) (k : Step M b c) : Step M a c :=
  ⟨k.os.trans h.os, k.tape.trans h.tape, k.output.trans h.output, Nat.le_trans h.size k.size,
    fun i hi hm => (k.block i (Nat.lt_of_lt_of_le hi h.size) hm).trans (h.block i hi hm)⟩
theorem Step.mono {M M' : Nat → Prop} {w w' : World} (h : Step M w w') (hm : ∀ k, k < w.heap.size → M k → M' k) : Step M' w w' :=
  ⟨h.os, h.tape, h.output, h.size, fun k hk hn => h.block k hk fun x => hn (hm k hk x)⟩

inductive Fact where
  | val (c : Value)
  | any (p : Value → (Nat → Prop) → World → Prop)

def Fact.holds : Fact → Value → (Nat → Prop) → World → Prop
  | .val c, v, F, _ => v = c ∧ ∀ k, ¬ F k
  | .any p, v, F, w => p v F w

def Fact.slot : Fact → Value → Value
  | .val c, _ => c
  | .any _, v => v

theorem Fact.slot_of_holds {φ : Fact} {v : Value} {F : Nat → Prop} {w : World} (h : φ.holds v F w) : φ.slot v = v := by
  cases φ with
  | val c => exact h.1.symm
  | any p => rfl

def deps (o : Oper) : List Nat := (o.after.toList.filter (Region.binds .any)).map (·.on)

section
variable (P : Program) (ops : Array Oper) (w0 : World) (own0 : Nat → Nat → Prop) (cons : Nat → List Nat) (facts : List Fact)

/-- What lay there before the region, and that no operation may write. -/
def Old (k : Nat) : Prop := k < w0.heap.size ∧ ∀ j, ¬ own0 j k

structure Pre (i : Nat) (o : Oper) (vs : Nat → Value) (F : Nat → Nat → Prop) (w : World) : Prop where
  step : Step (fun k => ∃ j, own0 j k) w0 w
  mine : ∀ k, own0 i k → w.heap[k]? = w0.heap[k]?
  later : ∀ (j : Nat) (p : Oper) k, ops[j]? = some p → i ∈ deps p → own0 j k → w.heap[k]? = w0.heap[k]?
  fact : ∀ d φ, d ∈ deps o → (∀ j, j ≠ i → d ∉ cons j) → facts[d]? = some φ → φ.holds (vs d) (F d) w
  own : ∀ d k, d ∈ deps o → (∀ j, j ≠ i → d ∉ cons j) → F d k → k < w.heap.size ∧ ¬ Old w0 own0 k ∧ ¬ own0 i k
  apart : ∀ d e k, d ∈ deps o → (∀ j, j ≠ i → d ∉ cons j) → e ∈ deps o → (∀ j, j ≠ i → e ∉ cons j) → d ≠ e → F d k → ¬ F e k

def Post (i : Nat) (φ : Fact) (F : Nat → Nat → Prop) (w : World) (v : Value) (w' : World) : Prop :=
  ∃ F' : Nat → Prop, Step (fun k => own0 i k ∨ ∃ c ∈ cons i, F c k) w w' ∧ φ.holds v F' w' ∧
    ∀ k, F' k → k < w'.heap.size ∧ (w.heap.size ≤ k ∨ own0 i k ∨ ∃ c ∈ cons i, F c k)

/-- What is to be shown of one operation: in whatever world its turn comes. -/
def Obl (i : Nat) (o : Oper) (φ : Fact) (vs : Nat → Value) (a : Act) : Prop :=
  ∀ F w K, Pre ops w0 own0 cons facts i o vs F w → (∀ v w', Post own0 cons i φ F w v w' → K (a.put o.dst v) w') →
    if Region.wanted o (yielded ops a.tmps) then Oper.wp P o a w K (fun _ _ _ => False) else K (a.put o.dst undef) w

def Chain (vs : Nat → Value) : List Oper → List Fact → Nat → Act → Prop
  | [], _, _, _ => True
  | o :: os, φ :: φs, i, a => Obl P ops w0 own0 cons facts i o φ vs a ∧ Chain vs os φs (i + 1) (a.put o.dst (φ.slot (vs i)))
  | _ :: _, [], _, _ => False

def finalAct (vs : Nat → Value) : List Oper → List Fact → Nat → Act → Act
  | o :: os, φ :: φs, i, a => finalAct vs os φs (i + 1) (a.put o.dst (φ.slot (vs i)))
  | _, _, _, a => a
end

/-- Is i among what comes ahead of j, by so many edges? -/
def reach (ops : Array Oper) : Nat → Nat → Nat → Bool
  | 0, _, _ => false
  | n + 1, i, j => match ops[j]? with
    | none => false
    | some o => (deps o).any fun d => d == i || reach ops n i d

/-- The look at the region's text: edges point backwards; each slot is written once; whoever reads a slot that the region writes stands behind the writer by an edge, or ahead of it by edges. -/
def okOps (ops : List Oper) (n : Nat) (cons : List (List Nat)) : Bool :=
  let A := ops.toArray
  (List.range ops.length).all (fun i => match A[i]? with
    | none => true
    | some o =>
      (deps o).all (· < i) &&
      (match o.op with | .select _ _ => false | _ => true) &&
      (match o.dst with | some t => decide (t < n) | none => true) &&
      (List.range ops.length).all (fun j => match A[j]? with
        | none => true
        | some p => match p.dst with
          | none => true
          | some t =>
            (i == j || o.dst != some t) &&
            (!(o.looksAt A).contains t || i == j || (if j < i then (deps o).contains j else reach A ops.length i j)))) &&
  (List.range ops.length).all (fun i => (cons.getD i []).all fun c => (match A[i]? with | some o => (deps o).contains c | none => false) &&
    (List.range ops.length).all fun j => i == j || !(cons.getD j []).contains c)


/-! ### the slots of the act that the text's order has come to -/
def actAt (vs : Nat → Value) : List Oper → List Fact → Nat → Act → Nat → Act
  | _, _, _, a, 0 => a
  | o :: os, φ :: φs, i, a, k + 1 => actAt vs os φs (i + 1) (a.put o.dst (φ.slot (vs i))) k
  | _, _, _, a, _ + 1 => a

theorem put_size (a : Act) (d : Option Tmp) (v : Value) : (a.put d v).tmps.size = a.tmps.size := by cases d <;> simp [Act.put]
theorem put_defers (a : Act) (d : Option Tmp) (v : Value) : (a.put d v).defers = a.defers := by cases d <;> simp [Act.put]
theorem put_other (a : Act) (d : Option Tmp) (v : Value) (t : Tmp) (h : d ≠ some t) : (a.put d v).tmps[t]? = a.tmps[t]? := by
  cases d with
  | none => rfl
  | some x => simp only [Act.put]; rw [Array.getElem?_setIfInBounds_ne (fun e => h (by rw [e]))]
theorem put_same (a : Act) (t : Tmp) (v : Value) (h : t < a.tmps.size) : (a.put (some t) v).tmps[t]? = some v := by
  simp [Act.put, h]

theorem actAt_size (vs : Nat → Value) : ∀ (os : List Oper) (φs : List Fact) (i : Nat) (a : Act) (k : Nat), (actAt vs os φs i a k).tmps.size = a.tmps.size ∧ (actAt vs os φs i a k).defers = a.defers := by
  intro os φs i a k
  induction k generalizing os φs i a with
  | zero => simp [actAt]
  | succ k ih =>
    cases os with
    | nil => simp [actAt]
    | cons o os =>
      cases φs with
      | nil => simp [actAt]
      | cons φ φs =>
        simp only [actAt]
        obtain ⟨h1, h2⟩ := ih os φs (i + 1) (a.put o.dst (φ.slot (vs i)))
        exact ⟨h1.trans (put_size _ _ _), h2.trans (put_defers _ _ _)⟩

theorem actAt_other (vs : Nat → Value) (t : Tmp) : ∀ (os : List Oper) (φs : List Fact) (i : Nat) (a : Act) (k : Nat),
    (∀ j o, j < k → os[j]? = some o → o.dst ≠ some t) → (actAt vs os φs i a k).tmps[t]? = a.tmps[t]? := by
  intro os φs i a k
  induction k generalizing os φs i a with
  | zero => intro _; simp [actAt]
  | succ k ih =>
    intro h
    cases os with
    | nil => simp [actAt]
    | cons o os =>
      cases φs with
      | nil => simp [actAt]
      | cons φ φs =>
        simp only [actAt]
        rw [ih os φs (i + 1) _ (fun j o hj ho => h (j + 1) o (by omega) (by simpa using ho))]
        exact put_other _ _ _ _ (h 0 o (by omega) rfl)

theorem actAt_same (vs : Nat → Value) (t : Tmp) : ∀ (os : List Oper) (φs : List Fact) (i : Nat) (a : Act) (k j : Nat) (o : Oper) (φ : Fact),
    j < k → os[j]? = some o → φs[j]? = some φ → o.dst = some t → t < a.tmps.size → (∀ j' o', j' ≠ j → os[j']? = some o' → o'.dst ≠ some t) →
    (actAt vs os φs i a k).tmps[t]? = some (φ.slot (vs (i + j))) := by
  intro os φs i a k
  induction k generalizing os φs i a with
  | zero => intro j o φ h; omega
  | succ k ih =>
    intro j o φ hj ho hφ hd ht hu
    cases os with
    | nil => simp at ho
    | cons o1 os =>
      cases φs with
      | nil => simp at hφ
      | cons φ1 φs =>
        simp only [actAt]
        cases j with
        | zero =>
          simp at ho hφ
          subst ho; subst hφ
          rw [actAt_other vs t os φs (i + 1) _ k (fun j' o' hj' ho' => hu (j' + 1) o' (by omega) (by simpa using ho')), hd, put_same _ _ _ ht]
          rfl
        | succ j =>
          have := ih os φs (i + 1) (a.put o1.dst (φ1.slot (vs i))) j o φ (by omega) (by simpa using ho) (by simpa using hφ) hd (by rw [put_size]; exact ht)
            (fun j' o' hj' ho' => hu (j' + 1) o' (by omega) (by simpa using ho'))
          rw [this]; congr 3; omega

section
variable {P : Program} {ops : Array Oper} {Q : Exit → Act → World → Prop} {w0 : World} {own0 : Nat → Nat → Prop} {cons : Nat → List Nat} {facts : List Fact}

theorem Chain.obl {vs : Nat → Value} : ∀ {os : List Oper} {φs : List Fact} {i : Nat} {a : Act}, Chain P ops w0 own0 cons facts vs os φs i a →
    ∀ k o, os[k]? = some o → ∃ φ, φs[k]? = some φ ∧ Obl P ops w0 own0 cons facts (i + k) o φ vs (actAt vs os φs i a k) := by
  intro os φs i a h k
  induction k generalizing os φs i a with
  | zero =>
    intro o ho
    cases os with
    | nil => simp at ho
    | cons o1 os =>
      cases φs with
      | nil => exact h.elim
      | cons φ φs => simp at ho; subst ho; exact ⟨φ, rfl, h.1⟩
  | succ k ih =>
    intro o ho
    cases os with
    | nil => simp at ho
    | cons o1 os =>
      cases φs with
      | nil => exact h.elim
      | cons φ1 φs =>
        obtain ⟨φ, h1, h2⟩ := ih h.2 o (by simpa using ho)
        refine ⟨φ, by simpa using h1, ?_⟩
        simp only [actAt]
        have e : i + (k + 1) = i + 1 + k := by omega
        rw [e]; exact h2

theorem finalAct_eq (vs : Nat → Value) : ∀ (os : List Oper) (φs : List Fact) (i : Nat) (a : Act), finalAct vs os φs i a = actAt vs os φs i a os.length := by
  intro os
  induction os with
  | nil => intro φs i a; simp [finalAct, actAt]
  | cons o os ih =>
    intro φs i a
    cases φs with
    | nil => simp [finalAct, actAt]
    | cons φ φs => simp only [finalAct, List.length_cons, actAt]; exact ih _ _ _

/-- The run of one operation hangs on the act only by its operands. -/
theorem wp_transfer {o : Oper} {a b : Act} {w : World} {K1 K2 : Act → World → Prop} (he : execOp a.eval o = execOp b.eval o)
    (hd : ∀ d v w', K1 ({ a with defers := d :: a.defers }.put o.dst v) w' → False)
    (hK : ∀ v w', K1 (a.put o.dst v) w' → K2 (b.put o.dst v) w') (h : o.wp P a w K1 (fun _ _ _ => False)) : o.wp P b w K2 Q := by
  unfold Oper.wp at *
  rw [← he]
  generalize (execOp a.eval o).run P w = r at *
  cases r with
  | ok n w' =>
    cases n with
    | value v => exact hK _ _ h
    | skip => exact hK _ _ h
    | defer d => exact (hd _ _ _ h).elim
    | enter f args =>
      refine Calls.mono h fun e w'' hr => ?_
      cases e with
      | returned v => exact hK _ _ hr
      | panicked c => exact hr.elim
      | outgrown => obtain ⟨_, _, hf⟩ := hr; exact hf.elim
    | row row args => exact Rows.mono h fun v w'' hr => hK _ _ hr
    | _ => exact h.elim
  | halt x w' => cases x <;> simp only [Oper.upon] at h

theorem wanted_congr (o : Oper) (t u : Array Value) (h : ∀ d, d ∈ o.looksAt ops → t[d]? = u[d]?) :
    Region.wanted o (yielded ops t) = Region.wanted o (yielded ops u) := by
  unfold Region.wanted
  cases hg : o.guard with
  | none => rfl
  | some gw =>
    obtain ⟨g, want⟩ := gw
    have hy : yielded ops t g = yielded ops u g := by
      unfold yielded
      cases ht : (ops[g]?).bind (·.dst) with
      | none => rfl
      | some x => simp only [Option.bind_some]; rw [h x (by simp [Oper.looksAt, hg, ht])]
    simp only [hy]

theorem execOp_of_slots (o : Oper) (hs : ∀ cs b, o.op ≠ .select cs b) (a b : Act) (h : ∀ d, d ∈ o.looksAt ops → a.tmps[d]? = b.tmps[d]?) :
    execOp a.eval o = execOp b.eval o :=
  execOp_congr o hs fun x hx => by
    cases x with
    | tmp t =>
      have : t ∈ o.looksAt ops := List.mem_append_left _ (List.mem_filterMap.2 ⟨.tmp t, by simpa using hx, rfl⟩)
      simp [Act.eval, h t this]
    | _ => rfl
end


/-! ### the look's facts, as propositions -/
structure Okay (ops : Array Oper) (n : Nat) (cons : Nat → List Nat) : Prop where
  back : ∀ (i : Nat) (o : Oper), ops[i]? = some o → ∀ d ∈ deps o, d < i
  nosel : ∀ (i : Nat) (o : Oper), ops[i]? = some o → ∀ cs b, o.op ≠ .select cs b
  inn : ∀ (i : Nat) (o : Oper) (t : Tmp), ops[i]? = some o → o.dst = some t → t < n
  once : ∀ (i j : Nat) (o p : Oper) (t : Tmp), ops[i]? = some o → ops[j]? = some p → o.dst = some t → p.dst = some t → i = j
  look : ∀ (i j : Nat) (o p : Oper) (t : Tmp), ops[i]? = some o → ops[j]? = some p → p.dst = some t → t ∈ o.looksAt ops → i ≠ j →
    (j < i ∧ j ∈ deps o) ∨ (i < j ∧ reach ops ops.size i j = true)
  consDep : ∀ (i c : Nat), c ∈ cons i → ∃ o : Oper, ops[i]? = some o ∧ c ∈ deps o
  consOne : ∀ i j c, c ∈ cons i → c ∈ cons j → i = j

theorem okay_of {ops : List Oper} {n : Nat} {cs : List (List Nat)} (h : okOps ops n cs = true) (hcs : cs.length ≤ ops.length) : Okay ops.toArray n (fun i => cs.getD i []) := by
  unfold okOps at h
  simp only [Bool.and_eq_true, List.all_eq_true, List.mem_range] at h
  obtain ⟨h1, h2⟩ := h
  have lt : ∀ i o, ops.toArray[i]? = some o → i < ops.length := fun i o ho => by
    have := (Array.getElem?_eq_some_iff.1 ho).1; simpa using this
  have g1 : ∀ i o, ops.toArray[i]? = some o → _ := fun i o ho => by
    have := h1 i (lt i o ho)
    rw [ho] at this
    simp only [Bool.and_eq_true, List.all_eq_true, List.mem_range] at this
    exact this
  have hempty : ∀ i, ops.length ≤ i → cs.getD i [] = [] := fun i hi => by
    rw [List.getD_eq_getElem?_getD, List.getElem?_eq_none (by omega)]; rfl
  refine ⟨?_, ?_, ?_, ?_, ?_, ?_, ?_⟩
  · intro i o ho d hd
    simpa using (g1 i o ho).1.1.1 d hd
  · intro i o ho cs b e
    have := (g1 i o ho).1.1.2
    rw [e] at this
    simp at this
  · intro i o t ho hd
    have := (g1 i o ho).1.2
    rw [hd] at this
    simpa using this
  · intro i j o p t ho hp hd hd'
    have := (g1 i o ho).2 j (lt j p hp)
    simp only [hp, hd'] at this
    simp only [Bool.and_eq_true, Bool.or_eq_true, beq_iff_eq, bne_iff_ne, hd, ne_eq, not_true_eq_false, or_false] at this
    exact this.1
  · intro i j o p t ho hp hd' hl hne
    have := (g1 i o ho).2 j (lt j p hp)
    simp only [hp, hd'] at this
    simp only [Bool.and_eq_true, Bool.or_eq_true, beq_iff_eq] at this
    rcases this.2 with (h | h) | h
    · simp at h; exact (h hl).elim
    · exact (hne h).elim
    · split at h
      · rename_i hji; exact .inl ⟨hji, by simpa using h⟩
      · rename_i hji; exact .inr ⟨by omega, by simpa using h⟩
  · intro i c hc
    rcases Nat.lt_or_ge i ops.length with hi | hi
    · have := (h2 i hi c hc)
      cases ho : ops.toArray[i]? with
      | none => rw [ho] at this; simp at this
      | some o => rw [ho] at this; exact ⟨o, rfl, by simpa using this.1⟩
    · rw [hempty i hi] at hc; cases hc
  · intro i j c hc hc'
    rcases Nat.lt_or_ge i ops.length with hi | hi
    · rcases Nat.lt_or_ge j ops.length with hj | hj
      · have := (h2 i hi c hc)
        have := this.2 j hj
        simp only [Bool.or_eq_true, beq_iff_eq] at this
        rcases this with h | h
        · exact h
        · simp at h; exact (h hc').elim
      · rw [hempty j hj] at hc'; cases hc'
    · rw [hempty i hi] at hc; cases hc

def isL (l : Array Bool) (i : Nat) : Prop := l.getD i false = true

theorem isL_set {l : Array Bool} {i j : Nat} (hi : i < l.size) : isL (l.setIfInBounds i true) j ↔ j = i ∨ isL l j := by
  unfold isL
  by_cases h : j = i
  · subst h; simp [hi]
  · rw [getD_set_ne false (Ne.symm h)]; simp [h]

section
variable {P : Program} {ops : Array Oper} {Q : Exit → Act → World → Prop} {a0 : Act} {w0 : World} {own0 : Nat → Nat → Prop} {cons : Nat → List Nat} {facts : List Fact}

def Live (cons : Nat → List Nat) (l : Array Bool) (d : Nat) : Prop := isL l d ∧ ∀ j, isL l j → d ∉ cons j

structure Inv (ops : Array Oper) (a0 : Act) (w0 : World) (own0 : Nat → Nat → Prop) (cons : Nat → List Nat) (facts : List Fact) (l : Array Bool) (a : Act) (w : World) (vs : Nat → Value) (F : Nat → Nat → Prop) : Prop where
  size : l.size = ops.size
  closed : ∀ (j : Nat) (o : Oper), ops[j]? = some o → isL l j → ∀ d ∈ deps o, isL l d
  defers : a.defers = a0.defers
  tsize : a.tmps.size = a0.tmps.size
  slot : ∀ (j : Nat) (o : Oper) (t : Tmp), ops[j]? = some o → isL l j → o.dst = some t → a.tmps[t]? = some (vs j)
  rest : ∀ (t : Tmp), (∀ (j : Nat) (o : Oper), ops[j]? = some o → isL l j → o.dst ≠ some t) → a.tmps[t]? = a0.tmps[t]?
  step : Step (fun k => ∃ j, own0 j k) w0 w
  mine : ∀ j k, ¬ isL l j → own0 j k → w.heap[k]? = w0.heap[k]?
  fact : ∀ d φ, Live cons l d → facts[d]? = some φ → φ.holds (vs d) (F d) w
  own : ∀ d k, Live cons l d → F d k → k < w.heap.size ∧ ¬ Old w0 own0 k ∧ ∀ j, ¬ isL l j → ¬ own0 j k
  apart : ∀ d e k, Live cons l d → Live cons l e → d ≠ e → F d k → ¬ F e k
  val : ∀ d φ, isL l d → facts[d]? = some φ → φ.slot (vs d) = vs d

theorem reach_listed {l : Array Bool} (hc : ∀ (j : Nat) (o : Oper), ops[j]? = some o → isL l j → ∀ d ∈ deps o, isL l d) : ∀ n i j, reach ops n i j = true → isL l j → isL l i := by
  intro n
  induction n with
  | zero => intro i j h; simp [reach] at h
  | succ n ih =>
    intro i j h hj
    unfold reach at h
    cases ho : ops[j]? with
    | none => rw [ho] at h; simp at h
    | some o =>
      rw [ho] at h
      simp only [List.any_eq_true, Bool.or_eq_true, beq_iff_eq] at h
      obtain ⟨d, hd, h⟩ := h
      have hl := hc j o ho hj d hd
      rcases h with rfl | h
      · exact hl
      · exact ih i d h hl

/-- A fact that other operations do not undo. -/
def Stable (w0 : World) (own0 : Nat → Nat → Prop) (φ : Fact) : Prop :=
  ∀ v F M w w', φ.holds v F w → Step M w w' → (∀ k, M k → ¬ F k ∧ ¬ Old w0 own0 k) → φ.holds v F w'

structure End (w0 : World) (own0 : Nat → Nat → Prop) (cons : Nat → List Nat) (facts : List Fact) (vs : Nat → Value) (F : Nat → Nat → Prop) (w : World) : Prop where
  step : Step (fun k => ∃ j, own0 j k) w0 w
  fact : ∀ d φ, (∀ j, d ∉ cons j) → facts[d]? = some φ → φ.holds (vs d) (F d) w
  own : ∀ d φ k, (∀ j, d ∉ cons j) → facts[d]? = some φ → F d k → k < w.heap.size ∧ ¬ Old w0 own0 k
  apart : ∀ d e k, (∀ j, d ∉ cons j) → (∀ j, e ∉ cons j) → d < facts.length → e < facts.length → d ≠ e → F d k → ¬ F e k

theorem not_isL {l : Array Bool} {i : Nat} (h : l.getD i true = false) : ¬ isL l i := by
  unfold isL
  rcases Nat.lt_or_ge i l.size with hi | hi
  · simp [hi] at h ⊢; exact h
  · simp [Array.getElem?_eq_none hi] at h

def left (l : Array Bool) (n : Nat) : Nat := ((List.range n).filter (fun k => !l.getD k false)).length

theorem left_zero {l : Array Bool} {n : Nat} (h : left l n = 0) : ∀ k, k < n → isL l k := by
  intro k hk
  unfold left at h
  have := List.filter_eq_nil_iff.1 (List.eq_nil_of_length_eq_zero h) k (List.mem_range.2 hk)
  unfold isL
  simpa using this

theorem left_set {l : Array Bool} {n i : Nat} (hi : i < n) (hs : i < l.size) (hn : ¬ isL l i) : left (l.setIfInBounds i true) n < left l n := by
  unfold left
  have e : (List.range n).filter (fun k => !(l.setIfInBounds i true).getD k false) = ((List.range n).filter (fun k => !l.getD k false)).filter (fun k => k != i) := by
    rw [List.filter_filter]
    apply List.filter_congr
    intro k _
    by_cases h : k = i
    · subst h; simp [hs]
    · rw [getD_set_ne false (Ne.symm h)]; simp [h]
  rw [e, List.length_filter_lt_length_iff_exists]
  refine ⟨i, List.mem_filter.2 ⟨List.mem_range.2 hi, ?_⟩, by simp⟩
  unfold isL at hn
  simpa using hn

theorem ready_nil {l : Array Bool} {n : Nat} (hok : Okay ops n cons) (hs : l.size = ops.size) (h : Region.ready .any ops l = []) : ∀ k, k < ops.size → isL l k := by
  intro k
  induction k using Nat.strongRecOn with
  | _ k ih =>
    intro hk
    by_cases hl : isL l k
    · exact hl
    · exfalso
      have ho : ops[k]? = some ops[k] := Array.getElem?_eq_getElem hk
      have : k ∈ Region.ready .any ops l := by
        rw [mem_ready]
        refine ⟨?_, ops[k], ho, fun e he hb => ?_⟩
        · unfold isL at hl
          have : k < l.size := by omega
          simp [this] at hl ⊢
          exact hl
        · have hd : e.on ∈ deps ops[k] := List.mem_map.2 ⟨e, List.mem_filter.2 ⟨by simpa using he, hb⟩, rfl⟩
          have hlt := hok.back k _ ho _ hd
          exact ih e.on hlt (by omega)
      rw [h] at this
      cases this

theorem finish {n : Nat} (hok : Okay ops n cons) (hn : n ≤ a0.tmps.size) (hlen : facts.length = ops.size) {l : Array Bool} {a : Act} {w : World} {vs : Nat → Value} {F : Nat → Nat → Prop}
    (hinv : Inv ops a0 w0 own0 cons facts l a w vs F) (hall : ∀ k, k < ops.size → isL l k)
    (hend : ∀ vs F w, End w0 own0 cons facts vs F w → Q .normal (finalAct vs ops.toList facts 0 a0) w) : Q .normal a w := by
  have hlive : ∀ d, d < ops.size → (∀ j, d ∉ cons j) → Live cons l d := fun d hd hj => ⟨hall d hd, fun j _ => hj j⟩
  have hlt : ∀ d φ, facts[d]? = some φ → d < ops.size := fun d φ h => by
    have := (List.getElem?_eq_some_iff.1 h).1; omega
  have key := hend vs F w ⟨hinv.step, fun d φ hj hφ => hinv.fact d φ (hlive d (hlt d φ hφ) hj) hφ,
    fun d φ k hj hφ hk => by obtain ⟨h1, h2, _⟩ := hinv.own d k (hlive d (hlt d φ hφ) hj) hk; exact ⟨h1, h2⟩,
    fun d e k hd he hdl hel hne => hinv.apart d e k (hlive d (by omega) hd) (hlive e (by omega) he) hne⟩
  have ea : a = finalAct vs ops.toList facts 0 a0 := by
    rw [finalAct_eq]
    obtain ⟨hs, hdf⟩ := actAt_size vs ops.toList facts 0 a0 ops.toList.length
    have ht : a.tmps = (actAt vs ops.toList facts 0 a0 ops.toList.length).tmps := by
      apply Array.ext_getElem?
      intro t
      by_cases hex : ∃ (j : Nat) (p : Oper), ops[j]? = some p ∧ p.dst = some t
      · obtain ⟨j, p, hp, hd⟩ := hex
        have hj : j < ops.size := (Array.getElem?_eq_some_iff.1 hp).1
        obtain ⟨φ, hφ⟩ : ∃ φ, facts[j]? = some φ := ⟨_, List.getElem?_eq_getElem (by omega)⟩
        rw [hinv.slot j p t hp (hall j hj) hd, actAt_same vs t ops.toList facts 0 a0 _ j p φ (by simpa using hj) (by simpa using hp) hφ hd
          (Nat.lt_of_lt_of_le (hok.inn j p t hp hd) hn)
          (fun j' o' hne ho' hd' => hne (hok.once j' j o' p t (by simpa using ho') hp hd' hd)), Nat.zero_add, hinv.val j φ (hall j hj) hφ]
      · rw [hinv.rest t (fun j o ho _ hd => hex ⟨j, o, ho, hd⟩), actAt_other vs t ops.toList facts 0 a0 _ (fun j o _ ho hd => hex ⟨j, o, by simpa using ho, hd⟩)]
    cases a with
    | mk tm df =>
      generalize actAt vs ops.toList facts 0 a0 ops.toList.length = b at *
      cases b with
      | mk tm' df' =>
        have h1 := hinv.defers
        simp only at ht hdf h1
        subst ht
        rw [h1, hdf]
  rw [ea]
  exact key

theorem sound {n : Nat} (hok : Okay ops n cons) (hn : n ≤ a0.tmps.size) (hlen : facts.length = ops.size) (hstab : ∀ φ ∈ facts, Stable w0 own0 φ)
    (hown : ∀ j k, own0 j k → k < w0.heap.size) (hdis : ∀ i j k, own0 i k → own0 j k → i = j)
    (hchain : ∀ vs, Chain P ops w0 own0 cons facts vs ops.toList facts 0 a0)
    (hend : ∀ vs F w, End w0 own0 cons facts vs F w → Q .normal (finalAct vs ops.toList facts 0 a0) w) :
    ∀ fuel l a w vs F, Inv ops a0 w0 own0 cons facts l a w vs F → left l ops.size ≤ fuel → wpAny P .any ops Q fuel l a w := by
  intro fuel
  induction fuel with
  | zero =>
    intro l a w vs F hinv hf
    have hall := left_zero (Nat.le_zero.1 hf)
    refine ⟨?_, finish hok hn hlen hinv hall hend⟩
    apply List.eq_nil_iff_forall_not_mem.2
    intro i hi
    rw [mem_ready] at hi
    obtain ⟨h0, o, ho, _⟩ := hi
    exact not_isL h0 (hall i (Array.getElem?_eq_some_iff.1 ho).1)
  | succ fuel ih =>
    intro l a w vs F hinv hf
    refine ⟨fun hr => finish hok hn hlen hinv (ready_nil hok hinv.size hr) hend, ?_⟩
    intro i hi
    rw [mem_ready] at hi
    obtain ⟨h0, o, ho, hd0⟩ := hi
    have hni := not_isL h0
    have hlt : i < ops.size := (Array.getElem?_eq_some_iff.1 ho).1
    have hils : i < l.size := by rw [hinv.size]; exact hlt
    have hdl : ∀ d ∈ deps o, isL l d := by
      intro d hd
      obtain ⟨e, he, rfl⟩ := List.mem_map.1 hd
      obtain ⟨he, hb⟩ := List.mem_filter.1 he
      exact hd0 e (by simpa using he) hb
    obtain ⟨φ, hφ, hobl⟩ := (hchain vs).obl i o (by simpa using ho)
    rw [Nat.zero_add] at hobl
    generalize hb : actAt vs ops.toList facts 0 a0 i = b at hobl
    obtain ⟨hbs, hbd⟩ := actAt_size vs ops.toList facts 0 a0 i
    rw [hb] at hbs hbd
    -- the two acts agree on what the operation looks at
    have agree : ∀ t, t ∈ o.looksAt ops → b.tmps[t]? = a.tmps[t]? := by
      intro t ht
      rw [← hb]
      by_cases hex : ∃ (j : Nat) (p : Oper), ops[j]? = some p ∧ p.dst = some t
      · obtain ⟨j, p, hp, hd⟩ := hex
        have hj : j < ops.size := (Array.getElem?_eq_some_iff.1 hp).1
        have late : ¬ isL l j → i ≤ j → (actAt vs ops.toList facts 0 a0 i).tmps[t]? = a.tmps[t]? := by
          intro hnl hle
          rw [hinv.rest t (fun j' o' ho' hl hd' => hnl (by rw [hok.once j j' p o' t hp ho' hd hd']; exact hl)),
            actAt_other vs t ops.toList facts 0 a0 i (fun j' o' hlt' ho' hd' => by
              have := hok.once j' j o' p t (by simpa using ho') hp hd' hd; omega)]
        by_cases hij : i = j
        · subst hij; exact late hni (Nat.le_refl _)
        · rcases hok.look i j o p t ho hp hd ht hij with ⟨hji, hjd⟩ | ⟨hji, hr⟩
          · obtain ⟨ψ, hψ⟩ : ∃ ψ, facts[j]? = some ψ := ⟨_, List.getElem?_eq_getElem (by omega)⟩
            rw [hinv.slot j p t hp (hdl j hjd) hd, actAt_same vs t ops.toList facts 0 a0 i j p ψ hji (by simpa using hp) hψ hd
              (Nat.lt_of_lt_of_le (hok.inn j p t hp hd) hn)
              (fun j' o' hne ho' hd' => hne (hok.once j' j o' p t (by simpa using ho') hp hd' hd)), Nat.zero_add, hinv.val j ψ (hdl j hjd) hψ]
          · exact late (fun hl => hni (reach_listed hinv.closed _ i j hr hl)) (by omega)
      · rw [hinv.rest t (fun j o ho _ hd => hex ⟨j, o, ho, hd⟩), actAt_other vs t ops.toList facts 0 a0 _ (fun j o _ ho hd => hex ⟨j, o, by simpa using ho, hd⟩)]
    -- what is alive
    have live : ∀ d, d ∈ deps o → (∀ j, j ≠ i → d ∉ cons j) → Live cons l d := fun d hd hj => ⟨hdl d hd, fun j hl => hj j (fun e => hni (e ▸ hl))⟩
    have liveC : ∀ c, c ∈ cons i → Live cons l c := by
      intro c hc
      obtain ⟨o', ho', hd⟩ := hok.consDep i c hc
      rw [ho] at ho'
      obtain rfl := Option.some.inj ho'
      exact live c hd (fun j hj hc' => hj (hok.consOne j i c hc' hc))
    have pre : Pre ops w0 own0 cons facts i o vs F w :=
      ⟨hinv.step, fun k hk => hinv.mine i k hni hk, fun j p k hp hi hk => hinv.mine j k (fun hl => hni (hinv.closed j p hp hl i hi)) hk, fun d ψ hd hj hψ => hinv.fact d ψ (live d hd hj) hψ,
        fun d k hd hj hk => by obtain ⟨h1, h2, h3⟩ := hinv.own d k (live d hd hj) hk; exact ⟨h1, h2, h3 i hni⟩,
        fun d e k hd hj he hj' hne => hinv.apart d e k (live d hd hj) (live e he hj') hne⟩
    -- one operation more
    have next : ∀ v w', Post own0 cons i φ F w v w' → wpAny P .any ops Q fuel (l.setIfInBounds i true) (a.put o.dst v) w' := by
      rintro v w' ⟨F', hst, hh, hF'⟩
      have hset : ∀ j, isL (l.setIfInBounds i true) j ↔ j = i ∨ isL l j := fun j => isL_set hils
      have live' : ∀ d, d ≠ i → Live cons (l.setIfInBounds i true) d → Live cons l d ∧ d ∉ cons i := fun d hne ⟨h1, h2⟩ =>
        ⟨⟨((hset d).1 h1).resolve_left hne, fun j hj => h2 j ((hset j).2 (.inr hj))⟩, h2 i ((hset i).2 (.inl rfl))⟩
      have hM : ∀ k, k < w0.heap.size → (∀ j, ¬ own0 j k) → ¬ (own0 i k ∨ ∃ c ∈ cons i, F c k) := by
        rintro k hk hno (h | ⟨c, hc, h⟩)
        · exact hno i h
        · exact (hinv.own c k (liveC c hc) h).2.1 ⟨hk, hno⟩
      refine ih _ _ _ (fun d => if d = i then v else vs d) (fun d => if d = i then F' else F d) ?_ (by have := left_set (l := l) hlt hils hni; omega)
      refine ⟨by simp [hinv.size], ?_, (put_defers _ _ _).trans hinv.defers, (put_size _ _ _).trans hinv.tsize, ?_, ?_, ?_, ?_, ?_, ?_, ?_, ?_⟩
      · intro j p hp hj d hd
        rw [hset]
        rcases (hset j).1 hj with rfl | hj
        · rw [ho] at hp; obtain rfl := Option.some.inj hp; exact .inr (hdl d hd)
        · exact .inr (hinv.closed j p hp hj d hd)
      · intro j p t hp hj hd
        by_cases hji : j = i
        · subst hji
          rw [ho] at hp; obtain rfl := Option.some.inj hp
          rw [hd, put_same _ _ _ (by rw [hinv.tsize]; exact Nat.lt_of_lt_of_le (hok.inn j o t ho hd) hn)]
          simp
        · have hj' := ((hset j).1 hj).resolve_left hji
          rw [put_other _ _ _ _ (fun e => hji (hok.once j i p o t hp ho hd e)), hinv.slot j p t hp hj' hd]
          simp [hji]
      · intro t hno
        rw [put_other _ _ _ _ (hno i o ho ((hset i).2 (.inl rfl)))]
        exact hinv.rest t (fun j p hp hj => hno j p hp ((hset j).2 (.inr hj)))
      · refine ⟨hst.os.trans hinv.step.os, hst.tape.trans hinv.step.tape, hst.output.trans hinv.step.output, Nat.le_trans hinv.step.size hst.size, ?_⟩
        intro k hk hno
        exact (hst.block k (Nat.lt_of_lt_of_le hk hinv.step.size) (hM k hk (fun j h => hno ⟨j, h⟩))).trans (hinv.step.block k hk hno)
      · intro j k hj hk
        have hji : j ≠ i := fun e => hj ((hset j).2 (.inl e))
        have hjl : ¬ isL l j := fun h => hj ((hset j).2 (.inr h))
        refine (hst.block k (Nat.lt_of_lt_of_le (hown j k hk) hinv.step.size) ?_).trans (hinv.mine j k hjl hk)
        rintro (h | ⟨c, hc, h⟩)
        · exact hji (hdis j i k hk h)
        · exact (hinv.own c k (liveC c hc) h).2.2 j hjl hk
      · intro d ψ hd hψ
        by_cases hdi : d = i
        · subst hdi
          rw [hφ] at hψ; obtain rfl := Option.some.inj hψ
          simpa using hh
        · obtain ⟨hl, hnc⟩ := live' d hdi hd
          simp only [hdi, if_false]
          refine hstab ψ (List.mem_of_getElem? hψ) _ _ _ _ _ (hinv.fact d ψ hl hψ) hst ?_
          rintro k (h | ⟨c, hc, h⟩)
          · exact ⟨fun hk => (hinv.own d k hl hk).2.2 i hni h, fun ho => ho.2 i h⟩
          · exact ⟨hinv.apart c d k (liveC c hc) hl (fun e => hnc (e ▸ hc)) h, (hinv.own c k (liveC c hc) h).2.1⟩
      · intro d k hd hk
        by_cases hdi : d = i
        · subst hdi
          simp only [if_true] at hk
          obtain ⟨h1, h2⟩ := hF' k hk
          refine ⟨h1, ?_, ?_⟩
          · rintro ⟨ha, hb⟩
            rcases h2 with h | h | ⟨c, hc, h⟩
            · have := hinv.step.size; omega
            · exact hb _ h
            · exact (hinv.own c k (liveC c hc) h).2.1 ⟨ha, hb⟩
          · intro j hj hjk
            have hji : j ≠ d := fun e => hj ((hset j).2 (.inl e))
            have hjl : ¬ isL l j := fun h => hj ((hset j).2 (.inr h))
            rcases h2 with h | h | ⟨c, hc, h⟩
            · have := hinv.step.size; have := hown j k hjk; omega
            · exact hji (hdis j d k hjk h)
            · exact (hinv.own c k (liveC c hc) h).2.2 j hjl hjk
        · obtain ⟨hl, _⟩ := live' d hdi hd
          simp only [hdi, if_false] at hk
          obtain ⟨h1, h2, h3⟩ := hinv.own d k hl hk
          exact ⟨Nat.lt_of_lt_of_le h1 hst.size, h2, fun j hj => h3 j (fun h => hj ((hset j).2 (.inr h)))⟩
      · have one : ∀ e k, e ≠ i → Live cons (l.setIfInBounds i true) e → F' k → ¬ F e k := by
          intro e k hei he hk hek
          obtain ⟨hl, hnc⟩ := live' e hei he
          rcases (hF' k hk).2 with h | h | ⟨c, hc, h⟩
          · have := (hinv.own e k hl hek).1; omega
          · exact (hinv.own e k hl hek).2.2 i hni h
          · exact hinv.apart c e k (liveC c hc) hl (fun x => hnc (x ▸ hc)) h hek
        intro d e k hd he hne hk hek
        by_cases hdi : d = i
        · subst hdi
          have hei : e ≠ d := fun x => hne x.symm
          simp only [if_true] at hk
          simp only [hei, if_false] at hek
          exact one e k hei he hk hek
        · simp only [hdi, if_false] at hk
          by_cases hei : e = i
          · subst hei
            simp only [if_true] at hek
            exact one d k hdi hd hek hk
          · simp only [hei, if_false] at hek
            exact hinv.apart d e k (live' d hdi hd).1 (live' e hei he).1 hne hk hek
      · intro d ψ hd hψ
        by_cases hdi : d = i
        · subst hdi
          rw [hφ] at hψ; obtain rfl := Option.some.inj hψ
          simp only [if_true]
          exact Fact.slot_of_holds hh
        · simp only [hdi, if_false]
          exact hinv.val d ψ (((hset d).1 hd).resolve_left hdi) hψ
    -- the operation's own run
    have hO := hobl F w (fun a' w' => ∃ v, a' = b.put o.dst v ∧ Post own0 cons i φ F w v w') pre (fun v w' hp => ⟨v, rfl, hp⟩)
    have tr : ∀ v w', (∃ v', b.put o.dst v = b.put o.dst v' ∧ Post own0 cons i φ F w v' w') → wpAny P .any ops Q fuel (l.setIfInBounds i true) (a.put o.dst v) w' := by
      rintro v w' ⟨v', he, hp⟩
      have e : a.put o.dst v = a.put o.dst v' := by
        cases hd : o.dst with
        | none => rfl
        | some t =>
          rw [hd] at he
          have ht : t < b.tmps.size := by rw [hbs]; exact Nat.lt_of_lt_of_le (hok.inn i o t ho hd) hn
          have h1 := put_same b t v ht
          rw [he, put_same b t v' ht] at h1
          rw [Option.some.inj h1]
      rw [e]
      exact next v' w' hp
    unfold wpOp
    rw [ho]
    have hw := wanted_congr (ops := ops) o b.tmps a.tmps agree
    rw [hw] at hO
    show if Region.wanted o (yielded ops a.tmps) = true then _ else _
    split
    · rename_i hwt
      rw [if_pos hwt] at hO
      refine .inl (wp_transfer (execOp_of_slots o (hok.nosel i o ho) b a agree) ?_ tr hO)
      rintro d v w' ⟨v', he, _⟩
      have := congrArg Act.defers he
      rw [put_defers, put_defers] at this
      have hl := congrArg List.length this
      simp at hl
    · rename_i hwt
      rw [if_neg hwt] at hO
      exact tr undef w hO

theorem left_start (n : Nat) : left (Array.replicate n false) n ≤ n := by
  unfold left
  exact Nat.le_trans (List.length_filter_le _ _) (by simp)

/-- A REGION THAT DRAWS ITS ORDER, WALKED ONCE: each operation in whatever world its turn comes. -/
theorem wp_region {id n : Nat} (hm : P.follows .mixedOrders = true) (hok : Okay ops n cons) (hn : n ≤ a0.tmps.size) (hlen : facts.length = ops.size) (hstab : ∀ φ ∈ facts, Stable w0 own0 φ)
    (hown : ∀ j k, own0 j k → k < w0.heap.size) (hdis : ∀ i j k, own0 i k → own0 j k → i = j)
    (hchain : ∀ vs, Chain P ops w0 own0 cons facts vs ops.toList facts 0 a0)
    (hend : ∀ vs F w, End w0 own0 cons facts vs F w → Q .normal (finalAct vs ops.toList facts 0 a0) w) :
    (Code.region id ops true).wp P Q a0 w0 := by
  refine wp_region_any hm (sound hok hn hlen hstab hown hdis hchain hend ops.size _ _ _ (fun _ => undef) (fun _ _ => False) ?_ (left_start _))
  have hno : ∀ j, ¬ isL (Array.replicate ops.size false) j := by
    intro j h
    unfold isL at h
    rcases Nat.lt_or_ge j ops.size with hj | hj
    · simp [hj] at h
    · simp [Array.getElem?_eq_none (xs := Array.replicate ops.size false) (by simpa using hj)] at h
  exact ⟨by simp, fun j _ _ h => (hno j h).elim, rfl, rfl, fun j _ _ _ h => (hno j h).elim, fun _ _ => rfl, ⟨rfl, rfl, rfl, Nat.le_refl _, fun _ _ _ => rfl⟩,
    fun _ _ _ _ => rfl, fun d _ h => (hno d h.1).elim, fun d _ h => (hno d h.1).elim, fun d _ _ h => (hno d h.1).elim, fun d _ h => (hno d h).elim⟩
end
end Go.Proofs.Ytihfibelklhkbaa.Rg
