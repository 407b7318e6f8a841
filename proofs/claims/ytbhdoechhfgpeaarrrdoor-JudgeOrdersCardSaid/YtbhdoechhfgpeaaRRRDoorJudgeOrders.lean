/- conduitlaw26.JudgeOrders answers true at every argument, where the package errors variable holds what it was given; with the rules for a region that appends rows. Condition: that. -/
import Derived.Test.YtbhdoechhfgpeaaRRRDoorAppArg
import Derived.Test.YtbhdoechhfgpeaaRRRDoorRgOwn
import Derived.Test.YtbhdoechhfgpeaaRRRDoorRecRow
import Derived.Test.YtbhdoechhfgpeaaRRRDoorJudgePlains
import Derived.Test.YtbhdoechhfgpeaaRRRDoorKnown26
/- A region that draws its order: 'append' of a row that is read at an address, to a row that an operation made, to nothing. No condition. -/
namespace Go.Proofs.YtbhdoechhfgpeaaRRRDoor
open Go.RowKit
namespace Rg
theorem run_append_read {P : Program} (w : World) (t e : TypeId) (i : TypeInfo) (z : Value) (size bytes : Nat) (ht : P.underlying t = some (.slice e)) (hi : P.info? e = some i) (hz : i.zero = some z)
    (hsize : i.size = size) (hby : i.bytes = bytes) (hzs : z.cells.size = size) (hsz : 0 < size)
    {v u : Value} {n m : Nat} {xs ys : List Value} {F : Nat → Prop} (hv : Row e size n xs v F w) (hu : Reads w u size m ys) (h1 : ∀ y ∈ ys, y.oneCell' = true)
    (h63 : n + m ≤ maxLen) (hbytes : (n + m) * bytes ≤ 140737488355328) :
    ∃ v' w', (Builtin.append_ #[t, t] t #[v, u]).run P w = .ok v' w' ∧ Row e size (n + m) (xs ++ ys) v' (fun k => k < w'.heap.size ∧ (w.heap.size ≤ k ∨ F k)) w' ∧ Step F w w' := by
  obtain ⟨hl, hm, a, cap, rfl, _, _, hr⟩ := hu
  rcases Nat.eq_zero_or_pos m with rfl | hm0
  · have hy : ys = [] := List.eq_nil_of_length_eq_zero (by omega)
    subst hy
    rcases a with _ | a0
    · refine ⟨v, w, append_none 0 t t e i size cap ht hi v n xs hv.1, ?_, Step.refl _ _⟩
      exact ⟨by simpa using hv.1, fun k hk => ⟨row_lt hv k hk, .inr (hv.2 k hk)⟩⟩
    · obtain ⟨v', w', hr2, h2, h3, h4⟩ := own_ends w t t e i z size bytes ht hi hz hsize hby hzs hsz v n xs hv.1 a0 0 cap [] (by simp) (by simp) (by simp) h63 hbytes
      refine ⟨v', w', hr2, ⟨h2, fun k hk => ⟨(h2.lt k hk).2, ?_⟩⟩, ⟨h3.os, h3.tape, h3.output, h3.size, fun k hk hm => h3.block k hk (fun hx => hm (hv.2 k hx.symm))⟩⟩
      rcases h4 k hk with h | h
      · exact .inr (hv.2 k h)
      · exact .inl (by omega)
  · obtain ⟨b, off, rfl, hc⟩ := hr hm0
    obtain ⟨v', w', hr2, h2, h3, h4⟩ := own_ends w t t e i z size bytes ht hi hz hsize hby hzs hsz v n xs hv.1 ⟨b, off, none⟩ m cap ys hl (fun j u hj => by rw [add_plain]; exact hc j u hj) h1 h63 hbytes
    refine ⟨v', w', hr2, ⟨h2, fun k hk => ⟨(h2.lt k hk).2, ?_⟩⟩, ⟨h3.os, h3.tape, h3.output, h3.size, fun k hk hm => h3.block k hk (fun hx => hm (hv.2 k hx.symm))⟩⟩
    rcases h4 k hk with h | h
    · exact .inr (hv.2 k h)
    · exact .inl (by omega)

section
variable {ops : Array Oper} {w0 : World} {own0 : Nat → Nat → Prop} {cons : Nat → List Nat} {facts : List Fact} {i : Nat} {o : Oper} {vs : Nat → Value} {a : Act} {os : List Oper} {φs : List Fact}
/-- To a row of records that operation d made. -/
theorem Chain.appendRead (d : Nat) (hg : Region.wanted o (yielded ops a.tmps) = true) (x y : Operand)
    (ho : o.op = .call { callee := .builtin .append, args := #[x, y], argTypes := #[22, 22] }) (hty : o.type = 22) (hx : a.eval x = vs d)
    {n m : Nat} {xs ys : List Value} (hu : ∀ w, Step (fun k => ∃ j, own0 j k) w0 w → Reads w (a.eval y) 4 m ys) (hf : facts[d]? = some (.any (Row 27 4 n xs)))
    (hd : (deps o).contains d = true) (hn : ∀ j, j ≠ i → d ∉ cons j) (hc : d ∈ cons i) (h1 : ∀ y ∈ ys, y.oneCell' = true) (h : n + m ≤ 1000000000)
    (hr : Chain Tryd.prog ops w0 own0 cons facts vs os φs (i + 1) (a.put o.dst (vs i))) :
    Chain Tryd.prog ops w0 own0 cons facts vs (o :: os) (.any (Row 27 4 (n + m) (xs ++ ys)) :: φs) i a := by
  refine ⟨?_, hr⟩
  intro F w K hp hK
  obtain ⟨ti, hti, hzz, hsz, hby⟩ := inf_rec
  have hv := hp.fact d _ (by simpa using hd) hn hf
  obtain ⟨v', w', hrun, hrow, hst⟩ := run_append_read (P := Tryd.prog) w 22 27 ti _ 4 40 Tryd.underlying22 hti hzz hsz hby rfl (by decide) hv (hu w hp.step) h1 (by unfold maxLen; omega) (by omega)
  rw [if_pos hg]
  unfold Oper.wp execOp
  simp only [ho, hty, resolve, invoke, builtin, Sem.run_bind, Sem.run_pure, Result.andThen_ok, List.map_toArray, List.map_cons, List.map_nil, hx, hrun]
  refine hK v' w' ⟨_, hst.mono (fun k _ hk => .inr ⟨d, hc, hk⟩), hrow, ?_⟩
  rintro k ⟨hk, h⟩
  refine ⟨hk, ?_⟩
  rcases h with h | h
  · exact .inl h
  · exact .inr (.inr ⟨d, hc, h⟩)
/-- To nothing. -/
theorem Chain.appendNew (hg : Region.wanted o (yielded ops a.tmps) = true) (x y : Operand)
    (ho : o.op = .call { callee := .builtin .append, args := #[x, y], argTypes := #[22, 22] }) (hty : o.type = 22) (hx : a.eval x = .slice none 0 0)
    {m : Nat} {ys : List Value} (hu : ∀ w, Step (fun k => ∃ j, own0 j k) w0 w → Reads w (a.eval y) 4 m ys) (h1 : ∀ y ∈ ys, y.oneCell' = true) (h : m ≤ 1000000000)
    (hr : Chain Tryd.prog ops w0 own0 cons facts vs os φs (i + 1) (a.put o.dst (vs i))) :
    Chain Tryd.prog ops w0 own0 cons facts vs (o :: os) (.any (Row 27 4 m ys) :: φs) i a := by
  refine ⟨?_, hr⟩
  intro F w K hp hK
  obtain ⟨ti, hti, hzz, hsz, hby⟩ := inf_rec
  obtain ⟨v', w', hrun, hrow, hst⟩ := run_append_read (P := Tryd.prog) (F := fun _ => False) w 22 27 ti _ 4 40 Tryd.underlying22 hti hzz hsz hby rfl (by decide) ⟨World.ownsRow_nil w 0 27 4, fun k hk => by cases hk⟩ (hu w hp.step) h1 (by unfold maxLen; omega) (by omega)
  rw [if_pos hg]
  unfold Oper.wp execOp
  simp only [ho, hty, resolve, invoke, builtin, Sem.run_bind, Sem.run_pure, Result.andThen_ok, List.map_toArray, List.map_cons, List.map_nil, hx, hrun]
  rw [Nat.zero_add, List.nil_append] at hrow
  refine hK v' w' ⟨_, hst.mono (fun k _ hk => hk.elim), hrow, ?_⟩
  rintro k ⟨hk, h⟩
  refine ⟨hk, ?_⟩
  rcases h with h | h
  · exact .inl h
  · exact h.elim
end
end Rg
end Go.Proofs.YtbhdoechhfgpeaaRRRDoor

/- What a judge reads of a request's records of which one is left out, or told twice. No program in sight. -/
namespace Go.Proofs.YtbhdoechhfgpeaaRRRDoor

theorem go_four (s : Snt) (pp : Bs) (x : Rec) (h : s.cut = false) (ht : x.t = 4) (hc : x.c ≠ []) : oneS (some (s, 1, pp)) x = (some (s, 1, pp ++ x.c), 0) := by
  simp only [oneS, goS]
  simp [h, ht, hc]
theorem run_four (s : Snt) (h : s.cut = false) : ∀ (C : List Rec) (_ : ∀ r ∈ C, r.t = 4 ∧ r.c ≠ []) (pp : Bs), ∃ pp', oneRun (some (s, 1, pp)) C = (some (s, 1, pp'), 0)
  | [], _, pp => ⟨pp, rfl⟩
  | x :: C, hC, pp => by
    obtain ⟨h1, h2⟩ := hC x (by simp)
    rw [oneRun_cons, go_four s pp x h h1 h2]
    simp only [if_true]
    exact run_four s h C (fun y hy => hC y (by simp [hy])) _
theorem go_five (s : Snt) (pp : Bs) (x : Rec) (h : s.cut = false) (ht : x.t = 5) : (oneS (some (s, 1, pp)) x).2 = 18 := by
  simp only [oneS, goS]
  simp [h, ht]

section
variable (l : List (Bs × Bs)) (body : Bs)
/-- The shape of a request's records. -/
theorem build_shape : ∃ C4 C5 : List Rec, buildR 1 l body = beginR 1 true :: (C4 ++ (⟨4, 1, [], 0⟩ :: (C5 ++ [⟨5, 1, [], 0⟩]))) ∧ tailR 1 l body = C4 ++ (⟨4, 1, [], 0⟩ :: (C5 ++ [⟨5, 1, [], 0⟩])) ∧ (∀ r ∈ C4, r.t = 4 ∧ r.id = 1 ∧ r.c ≠ []) ∧ (∀ r ∈ C5, r.t = 5 ∧ r.id = 1 ∧ r.c ≠ []) ∧ splitR 5 1 body = C5 ++ [⟨5, 1, [], 0⟩] := by
  obtain ⟨C4, a1, a2⟩ := split_snoc 4 1 (pairB l)
  obtain ⟨C5, b1, b2⟩ := split_snoc 5 1 body
  refine ⟨C4, C5, ?_, ?_, a2, b2, b1⟩
  · rw [build_eq]; unfold tailR; rw [a1, b1]; simp
  · unfold tailR; rw [a1, b1]; simp

/-- The beginning is left out. -/
theorem out_begin (f : Int) : (JS.empty.run f (tailR 1 l body)).2 = 18 := by
  obtain ⟨C4, C5, _, h, h4, _, _⟩ := build_shape l body
  have hne : ∃ x X, tailR 1 l body = x :: X := by
    rw [h]
    cases C4 with
    | nil => exact ⟨_, _, rfl⟩
    | cons x X => exact ⟨_, _, rfl⟩
  obtain ⟨x, X, e⟩ := hne
  obtain ⟨i1, i2⟩ := tail_ids 1 l body x (by rw [e]; simp)
  rw [e, run_cons]
  have := first_bad JS.empty x f (by rw [i1]; decide) i2 rfl
  rw [this]
  simp
/-- The beginning twice. -/
theorem two_begins (X : List Rec) : (JS.empty.run 0 (beginR 1 true :: beginR 1 true :: X)).2 = 18 := by
  rw [run_cons, begin_step JS.empty 1 0 (by decide) (fun p hp => by cases hp)]
  simp only [if_true]
  rw [run_cons]
  have := begin_busy (⟨JS.empty.l ++ [Snt.new 1], JS.empty.frm ++ [0], fun k => if k = 1 then some ⟨JS.empty.l.length, 1, []⟩ else JS.empty.ids k⟩) 1 (0 + ((beginR 1 true).bytes.length : Int)) (by decide) ⟨0, 1, []⟩ (by simp [JS.empty]) (by simp [JS.empty, Snt.new])
  rw [this]
  simp
/-- The last one twice. -/
theorem two_lasts (hP : readP 0 (pairB l) = (l, 0)) : (JS.empty.run 0 (buildR 1 l body ++ [⟨5, 1, [], 0⟩])).2 = 18 := by
  obtain ⟨h1, h2, h3, h4⟩ := run_whole JS.empty 1 0 (by decide) (fun p hp => by cases hp) l body hP
  rw [run_append _ _ _ _ h1, run_cons]
  have := goes_step _ [] ⟨1, l, body, true, false⟩ 3 (pairB l) ⟨5, 1, [], 0⟩ (0 + (allBytes (buildR 1 l body)).length) (by decide) (by decide) h2 h4
  have hg : (goS ⟨1, l, body, true, false⟩ 3 (pairB l) ⟨5, 1, [], 0⟩).2.2.2 = 18 := by simp [goS]
  rw [hg] at this
  simp only [show ¬ ((18 : Int) = 0) by decide, if_false] at this
  rw [this]
  simp
/-- The last one left out. -/
theorem out_last (hP : readP 0 (pairB l) = (l, 0)) (k : Nat) (hk : k + 1 = (tailR 1 l body).length) : ∃ s, (JS.empty.run 0 (beginR 1 true :: (tailR 1 l body).take k)).2 = 0 ∧ (JS.empty.run 0 (beginR 1 true :: (tailR 1 l body).take k)).1.l = [s] ∧ s.whole = false := by
  obtain ⟨s, far, pp, h1, h2, h3⟩ := part_tail 1 l body hP k (by omega)
  obtain ⟨s', far', pp', e1, e2, e3, e4, e5⟩ := run_begun JS.empty 1 0 (by decide) (fun p hp => by cases hp) ((tailR 1 l body).take k) (fun x hx => tail_ids 1 l body x (List.mem_of_mem_take hx))
  rw [h1] at e1 e5
  simp at e1
  obtain ⟨rfl, rfl, rfl⟩ := e1
  exact ⟨s, e5, e2, by rw [h3]; simp; omega⟩
/-- The parameters' end left out. -/
theorem out_params (C4 C5 : List Rec) (h4 : ∀ r ∈ C4, r.t = 4 ∧ r.id = 1 ∧ r.c ≠ []) (h5 : ∀ r ∈ C5, r.t = 5 ∧ r.id = 1 ∧ r.c ≠ []) : (JS.empty.run 0 (beginR 1 true :: (C4 ++ (C5 ++ [⟨5, 1, [], 0⟩])))).2 = 18 := by
  have hX : ∀ x ∈ C4 ++ (C5 ++ [⟨5, 1, [], 0⟩]), x.id = 1 ∧ x.t ≠ 1 := by
    intro x hx
    rcases List.mem_append.1 hx with hx | hx
    · obtain ⟨a, b, _⟩ := h4 x hx; exact ⟨b, by rw [a]; decide⟩
    rcases List.mem_append.1 hx with hx | hx
    · obtain ⟨a, b, _⟩ := h5 x hx; exact ⟨b, by rw [a]; decide⟩
    · simp at hx; subst hx; exact ⟨rfl, by decide⟩
  obtain ⟨s', far', pp', e1, e2, e3, e4, e5⟩ := run_begun JS.empty 1 0 (by decide) (fun p hp => by cases hp) _ hX
  rw [e5]
  obtain ⟨pp, hp⟩ := run_four (Snt.new 1) rfl C4 (fun r hr => ⟨(h4 r hr).1, (h4 r hr).2.2⟩) []
  rw [oneRun_append _ _ _ (by rw [hp]), hp]
  have hne : ∃ x X, C5 ++ [(⟨5, 1, [], 0⟩ : Rec)] = x :: X ∧ x.t = 5 := by
    cases C5 with
    | nil => exact ⟨_, _, rfl, rfl⟩
    | cons x X => exact ⟨_, _, rfl, (h5 x (by simp)).1⟩
  obtain ⟨x, X, e, ht⟩ := hne
  rw [e, oneRun_cons]
  have := go_five (Snt.new 1) pp x rfl ht
  rw [this]
  simp [this]
end
end Go.Proofs.YtbhdoechhfgpeaaRRRDoor

/- conduitlaw26.JudgeOrders answers true at every argument, where the package errors' variable holds what it was given. Condition: that. -/
namespace Go.Proofs.YtbhdoechhfgpeaaRRRDoor
open Go.RowKit

theorem takeO_reads {B : Nat} {w : World} {g cap : Nat} {L : List Rec} (h : w.ownsRow B 27 4 (.slice (some ⟨g, 0, none⟩) L.length cap) L.length (recCells L)) (K : Nat) (hK : K ≤ L.length) (c2 : Nat) (hc1 : K ≤ c2) (hc2 : c2 ≤ maxLen) : Reads w (.slice (some ⟨g, 0, none⟩) K c2) 4 (L.take K).length (recCells (L.take K)) := by
  have hl : (L.take K).length = K := by rw [List.length_take]; omega
  refine ⟨flat_len (size := 4) Rec.cells (L.take K) (fun _ _ => rfl), by omega, _, c2, by rw [hl], by omega, hc2, fun _ => ⟨g, 0, rfl, fun j u hj => ?_⟩⟩
  have hpre : (recCells L)[j]? = some u := by
    have e : recCells L = recCells (L.take K) ++ recCells (L.drop K) := by rw [← recCells_append, List.take_append_drop]
    rw [e, List.getElem?_append_left (List.getElem?_eq_some_iff.1 hj).1]
    exact hj
  have := h.cells (g := g) rfl j u hpre
  rw [add_plain, Nat.zero_add] at this
  rw [Nat.zero_add]
  exact this

theorem drop_reads {B : Nat} {w : World} {g cap : Nat} {L : List Rec} (h : w.ownsRow B 27 4 (.slice (some ⟨g, 0, none⟩) L.length cap) L.length (recCells L)) (k : Nat) (hk : k < L.length) (h1 : L.length ≤ cap) (h2 : cap ≤ maxLen) (A : Option Addr) (hA : k + 1 < L.length → A = some ⟨g, (k + 1) * 4, none⟩) :
    Reads w (.slice A (L.length - (k + 1)) (cap - (k + 1))) 4 (L.drop (k + 1)).length (recCells (L.drop (k + 1))) := by
  have hl : (L.drop (k + 1)).length = L.length - (k + 1) := by rw [List.length_drop]
  refine ⟨flat_len (size := 4) Rec.cells _ (fun _ _ => rfl), by omega, A, cap - (k + 1), by rw [hl], by omega, by omega, fun hp => ⟨g, (k + 1) * 4, hA (by omega), fun j u hj => ?_⟩⟩
  have hpre : (recCells L)[(k + 1) * 4 + j]? = some u := by
    have e : recCells L = recCells (L.take (k + 1)) ++ recCells (L.drop (k + 1)) := by rw [← recCells_append, List.take_append_drop]
    have hle : (recCells (L.take (k + 1))).length = (k + 1) * 4 := by
      rw [show (recCells (L.take (k + 1))).length = (L.take (k + 1)).length * 4 from flat_len (size := 4) Rec.cells _ (fun _ _ => rfl), List.length_take]
      congr 1
      omega
    rw [e, List.getElem?_append_right (by omega), hle, Nat.add_sub_cancel_left]
    exact hj
  have := h.cells (g := g) rfl _ u hpre
  rw [add_plain, Nat.zero_add] at this
  exact this

/-- What is read where a record is left out (D: told twice). -/
def ordM (D : Bool) (L : List Rec) (k : Nat) : List Rec := if D then (L.take (k + 1) ++ (L[k]?).toList) ++ L.drop (k + 1) else L.take k ++ L.drop (k + 1)
theorem ord_count (D : Bool) (l : List (Bs × Bs)) (body : Bs) (k : Nat) (hk : k < (tailR 1 l body).length) (h : (JS.empty.run 0 (ordM D (buildR 1 l body) (k + 1))).2 = 0) : (JS.empty.run 0 (ordM D (buildR 1 l body) (k + 1))).1.l.length = 1 := by
  rw [run_count _ _ _ h]
  have ht : ∀ X : List Rec, (∀ x ∈ X, x ∈ tailR 1 l body) → X.filter (fun x => x.t == 1) = [] := by
    intro X hX
    rw [List.filter_eq_nil_iff]
    intro x hx
    have := (tail_ids 1 l body x (hX x hx)).2
    simpa using this
  unfold ordM
  rw [build_eq]
  cases D
  · simp only [Bool.false_eq_true, if_false, List.take_succ_cons, List.drop_succ_cons, List.cons_append]
    rw [List.filter_cons_of_pos (by rfl), ht _ (fun x hx => (List.mem_append.1 hx).elim List.mem_of_mem_take List.mem_of_mem_drop)]
    rfl
  · simp only [if_true, List.take_succ_cons, List.drop_succ_cons, List.cons_append, List.getElem?_cons_succ, List.getElem?_eq_getElem hk, Option.toList_some]
    rw [List.filter_cons_of_pos (by rfl), ht _ (fun x hx => by
      rcases List.mem_append.1 hx with hx | hx
      · rcases List.mem_append.1 hx with hx | hx
        · exact List.mem_of_mem_take hx
        · simp at hx; subst hx; exact List.getElem_mem hk
      · exact List.mem_of_mem_drop hx)]
    rfl
theorem ord_zero (D : Bool) (l : List (Bs × Bs)) (body : Bs) : (JS.empty.run 0 (ordM D (buildR 1 l body) 0)).2 = 18 := by
  unfold ordM
  rw [build_eq]
  cases D
  · exact out_begin l body 0
  · exact two_begins _
theorem ord_last_two (l : List (Bs × Bs)) (body : Bs) (hP : readP 0 (pairB l) = (l, 0)) (k : Nat) (hk : k + 1 = (tailR 1 l body).length) : (JS.empty.run 0 (ordM true (buildR 1 l body) (k + 1))).2 = 18 := by
  have h := two_lasts l body hP
  have e : ordM true (buildR 1 l body) (k + 1) = buildR 1 l body ++ [⟨5, 1, [], 0⟩] := by
    unfold ordM
    simp only [if_true]
    have hl : (buildR 1 l body).length = k + 2 := by rw [build_eq, List.length_cons]; omega
    rw [List.take_of_length_le (by omega), List.drop_of_length_le (by omega), List.append_nil]
    congr 1
    obtain ⟨C4, C5, h1, h2, _⟩ := build_shape l body
    rw [build_eq, List.getElem?_cons_succ, h2]
    have hl2 : (C4 ++ (⟨4, 1, [], 0⟩ :: (C5 ++ [(⟨5, 1, [], 0⟩ : Rec)]))).length = k + 1 := by rw [← h2]; omega
    have : (C4 ++ (⟨4, 1, [], 0⟩ :: (C5 ++ [(⟨5, 1, [], 0⟩ : Rec)]))) = (C4 ++ (⟨4, 1, [], 0⟩ :: C5)) ++ [⟨5, 1, [], 0⟩] := by simp
    rw [this] at hl2 ⊢
    rw [List.getElem?_append_right (by simp at hl2 ⊢; omega)]
    have : k - (C4 ++ ((⟨4, 1, [], 0⟩ : Rec) :: C5)).length = 0 := by simp at hl2 ⊢; omega
    rw [this]
    rfl
  rw [e]
  exact h
theorem ord_last (l : List (Bs × Bs)) (body : Bs) (hP : readP 0 (pairB l) = (l, 0)) (k : Nat) (hk : k + 1 = (tailR 1 l body).length) : ∃ s, (JS.empty.run 0 (ordM false (buildR 1 l body) (k + 1))).2 = 0 ∧ (JS.empty.run 0 (ordM false (buildR 1 l body) (k + 1))).1.l = [s] ∧ s.whole = false := by
  have e : ordM false (buildR 1 l body) (k + 1) = beginR 1 true :: (tailR 1 l body).take k := by
    unfold ordM
    rw [build_eq]
    simp only [Bool.false_eq_true, if_false, List.take_succ_cons, List.drop_succ_cons]
    rw [List.drop_of_length_le (by omega), List.append_nil]
  rw [e]
  exact out_last l body hP k hk
theorem ord_empty (l : List (Bs × Bs)) (body : Bs) (k : Nat) (hk : k + 1 < (tailR 1 l body).length) (hc : ((tailR 1 l body)[k]'(by omega)).c = []) : (JS.empty.run 0 (ordM false (buildR 1 l body) (k + 1))).2 = 18 := by
  obtain ⟨C4, C5, h1, h2, h4, h5, _⟩ := build_shape l body
  have hkk : k = C4.length := by
    rcases Nat.lt_trichotomy k C4.length with h | h | h
    · exfalso
      have : (tailR 1 l body)[k] = C4[k] := by
        simp only [h2]
        rw [List.getElem_append_left h]
      rw [this] at hc
      exact (h4 _ (List.getElem_mem h)).2.2 hc
    · exact h
    · exfalso
      have hl2 : (tailR 1 l body).length = C4.length + 1 + C5.length + 1 := by rw [h2]; simp; omega
      have : (tailR 1 l body)[k] = C5[k - C4.length - 1]'(by omega) := by
        simp only [h2]
        rw [List.getElem_append_right (by omega), List.getElem_cons, dif_neg (by omega), List.getElem_append_left (by omega)]
      rw [this] at hc
      exact (h5 _ (List.getElem_mem _)).2.2 hc
  have e : ordM false (buildR 1 l body) (k + 1) = beginR 1 true :: (C4 ++ (C5 ++ [⟨5, 1, [], 0⟩])) := by
    unfold ordM
    rw [build_eq]
    simp only [Bool.false_eq_true, if_false, List.take_succ_cons, List.drop_succ_cons]
    rw [h2, hkk]
    simp
  rw [e]
  exact out_params C4 C5 h4 h5

section
variable (l : List (Bs × Bs)) (body : Bs)
theorem tail_two : 2 ≤ (tailR 1 l body).length := by
  obtain ⟨C4, C5, _, h, _⟩ := build_shape l body
  rw [h]; simp; omega
theorem build_at (j : Nat) (hj : j < (tailR 1 l body).length) (hk : j + 1 < (buildR 1 l body).length) : (buildR 1 l body)[j + 1] = (tailR 1 l body)[j] := by
  simp only [build_eq, List.getElem_cons_succ]
theorem build_len : (buildR 1 l body).length = (tailR 1 l body).length + 1 := rfl
/-- What becomes of it, by cases. -/
theorem ord_cases (hP : readP 0 (pairB l) = (l, 0)) (D : Bool) (k : Nat) (hkl : k < (buildR 1 l body).length) :
    (JS.empty.run 0 (ordM D (buildR 1 l body) k)).2 = 18 ∧ (k = 0 ∨ (D = true ∧ k + 1 = (buildR 1 l body).length ∧ (buildR 1 l body)[k].c = []) ∨ (D = false ∧ k ≠ 0 ∧ k + 1 ≠ (buildR 1 l body).length ∧ (buildR 1 l body)[k].c = [])) ∨
      (k ≠ 0 ∧ D = false ∧ k + 1 = (buildR 1 l body).length ∧ ∃ s, (JS.empty.run 0 (ordM D (buildR 1 l body) k)).2 = 0 ∧ (JS.empty.run 0 (ordM D (buildR 1 l body) k)).1.l = [s] ∧ s.whole = false) ∨
      (k ≠ 0 ∧ (D = true → ¬ (k + 1 = (buildR 1 l body).length ∧ (buildR 1 l body)[k].c = [])) ∧ (D = false → k + 1 ≠ (buildR 1 l body).length ∧ (buildR 1 l body)[k].c ≠ []) ∧ ((JS.empty.run 0 (ordM D (buildR 1 l body) k)).2 = 0 → (JS.empty.run 0 (ordM D (buildR 1 l body) k)).1.l.length = 1)) := by
  rcases Nat.eq_zero_or_pos k with rfl | hk0
  · exact .inl ⟨ord_zero D l body, .inl rfl⟩
  obtain ⟨j, rfl⟩ : ∃ j, k = j + 1 := ⟨k - 1, by omega⟩
  have hlen := build_len l body
  have hj : j < (tailR 1 l body).length := by omega
  have hx := build_at l body j hj hkl
  cases D with
  | true =>
    by_cases hlast : j + 1 + 1 = (buildR 1 l body).length ∧ (buildR 1 l body)[j + 1].c = []
    · exact .inl ⟨ord_last_two l body hP j (by omega), .inr (.inl ⟨rfl, hlast⟩)⟩
    · exact .inr (.inr ⟨by omega, fun _ => hlast, (fun h => by cases h), ord_count true l body j hj⟩)
  | false =>
    by_cases hlast : j + 1 + 1 = (buildR 1 l body).length
    · exact .inr (.inl ⟨by omega, rfl, hlast, ord_last l body hP j (by omega)⟩)
    · by_cases hc : (buildR 1 l body)[j + 1].c = []
      · exact .inl ⟨ord_empty l body j (by omega) (by rw [← hx]; exact hc), .inr (.inr ⟨rfl, by omega, hlast, hc⟩)⟩
      · exact .inr (.inr ⟨by omega, (fun h => by cases h), fun _ => ⟨hlast, hc⟩, ord_count false l body j hj⟩)
theorem ord_type (k : Nat) (hkl : k < (buildR 1 l body).length) : (buildR 1 l body)[k].t = 1 ↔ k = 0 := by
  rcases Nat.eq_zero_or_pos k with rfl | hk0
  · constructor
    · intro _; rfl
    · intro _; rfl
  obtain ⟨j, rfl⟩ : ∃ j, k = j + 1 := ⟨k - 1, by omega⟩
  have hlen := build_len l body
  have hj : j < (tailR 1 l body).length := by omega
  rw [build_at l body j hj hkl]
  have := (tail_ids 1 l body _ (List.getElem_mem hj)).2
  constructor
  · intro h; exact absurd h this
  · intro h; omega
end

set_option maxRecDepth 100000 in
set_option maxHeartbeats 8000000 in
theorem jo_any (body : Bs) (at_ : Int) (D : Bool) (w : World) (ha0 : 0 ≤ at_) (ha1 : at_ < 256) (hbody : body.length ≤ 9223372036854775807) (hg : w.cell? ⟨0, 0, none⟩ = some errTypeV) :
    Calls Tryd.prog 5 #[.string (bs body), .int .u8 at_, .bool D] w fun e w' => e = .returned (.bool true) ∧ Below w.heap.size w w' := by
  have hg0 : 0 < w.heap.size := World.block_lt_of_cell? w _ hg
  have hg' : ∀ w', Below w.heap.size w w' → w'.cell? ⟨0, 0, none⟩ = some errTypeV := fun w' hb => by rw [hb.cell hg0]; exact hg
  have HG := Lib.hid hg'
  clear hg hg'
  go_enter Tryd.func5, Tryd.ntmps5
  go_wp2_with fail
  refine (known26 _ (HG.out _ (Below.refl _ _))).mono ?_
  rintro e w1 ⟨rfl, W1⟩
  by_cases h12 : 1200 < body.length
  · have q1 : decide ((1200 : Int) < (body.length : Int)) = true := by simp; omega
    go_wp2_with fail
    go_ret
    exact ⟨rfl, W1⟩
  have q1 : decide ((1200 : Int) < (body.length : Int)) = false := by simp; omega
  go_wp2_with fail
  clear q1
  have hpr : ∀ w', Below (w1.alloc (.cells #[.string (bs [110]), .string (bs [118])] 42)).heap.size (w1.alloc (.cells #[.string (bs [110]), .string (bs [118])] 42)) w' → Reads w' (.slice (some ⟨w1.heap.size, 0, none⟩) 1 1) 2 ([([110], [118])] : List (Bs × Bs)).length (([([110], [118])] : List (Bs × Bs)).flatMap pairCells) := fun w' hb => own_reads (own_kept (row_pair w1 [110] [118]).1 hb)
  have W2 := below_later W1 (below_alloc w1 (.cells #[.string (bs [110]), .string (bs [118])] 42))
  have hpl : (pairB [([110], [118])]).length = 4 := by kernel_rfl
  have hP := one_pair [110] [118] (by decide) (by decide)
  refine (rbuild_any 1 [([110], [118])] body _ _ (fun w' hb => rpairs_any [([110], [118])] _ w' (hpr w' hb) (by decide) (by intro p hp; simp at hp; subst hp; decide)) (by rw [hpl]; decide) (by omega)).mono ?_
  rintro e w3 ⟨v, rfl, ho, hb⟩
  have W3 := below_later W2 hb
  clear hb hpr W2 W1
  have hI := build_is 1 (by decide) [([110], [118])] body
  have hbl := build_bytes 1 (by decide) [([110], [118])] body
  rw [hpl] at hbl
  have hLn : (buildR 1 [([110], [118])] body).length = (tailR 1 [([110], [118])] body).length + 1 := rfl
  have hLm : (buildR 1 [([110], [118])] body).length ≤ 2000 := by
    have lA := splitR_len 4 1 (pairB [([110], [118])])
    have lB := splitR_len 5 1 body
    rw [hpl] at lA
    simp [buildR]; omega
  have hLp : 0 < (buildR 1 [([110], [118])] body).length := by omega
  clear hLn
  obtain ⟨g, cap, rfl, _, hgl, hcells⟩ := own_open ho hLp
  have hL3 : 3 ≤ (buildR 1 [([110], [118])] body).length := by rw [build_len]; have := tail_two [([110], [118])] body; omega
  have hM := fun k hk => ord_cases [([110], [118])] body hP D k hk
  have hty := fun k hk => ord_type [([110], [118])] body k hk
  generalize buildR 1 [([110], [118])] body = L at *
  have hL0 : 0 < L.length := by omega
  obtain ⟨k, hmod⟩ : ∃ k : Nat, at_ % (L.length : Int) = (k : Int) := ⟨(at_ % (L.length : Int)).toNat, by have := Int.emod_nonneg at_ (show (L.length : Int) ≠ 0 by omega); omega⟩
  have hkl : k < L.length := by have := Int.emod_lt_of_pos at_ (show (0 : Int) < (L.length : Int) by omega); omega
  have hcap : L.length ≤ cap ∧ cap ≤ maxLen := by
    rcases ho.2 with ⟨h, _⟩ | ⟨g', cap', cur, h, _, _, h1, h2, _⟩
    · cases h
    · simp only [Value.slice.injEq, true_and] at h; obtain ⟨_, rfl⟩ := h; exact ⟨h1, h2⟩
  obtain ⟨hcap1, hcap2⟩ := hcap
  have hkc : k < cap := by omega
  have hkz : k ≤ 2000 := by omega
  have hkc1 : k + 1 ≤ cap := by omega
  have hkl1 : k + 1 ≤ L.length := by omega
  obtain ⟨a1, a2, a3, a0⟩ := rec_at L k hkl
  have c0 := hcells _ _ a0
  have c1 := hcells _ _ a1
  have c2 := hcells _ _ a2
  have c3 := hcells _ _ a3
  have hxI : L[k].Is := hI _ (List.getElem_mem hkl)
  have hbx : L[k].bytes.length ≤ 70000 := by
    have := allBytes_take L k hkl
    have := allBytes_take_le L (k + 1)
    omega
  have hMI : ∀ x ∈ ordM D L k, x.Is := by
    intro x hx
    unfold ordM at hx
    cases D
    · exact hI x ((List.mem_append.1 hx).elim List.mem_of_mem_take List.mem_of_mem_drop)
    · rcases List.mem_append.1 hx with hx | hx
      · rcases List.mem_append.1 hx with hx | hx
        · exact hI x (List.mem_of_mem_take hx)
        · rw [List.getElem?_eq_getElem hkl] at hx; simp at hx; subst hx; exact hxI
      · exact hI x (List.mem_of_mem_drop hx)
  have hMb : (allBytes (ordM D L k)).length ≤ 1000000 := by
    have e : allBytes L = allBytes (L.take (k + 1)) ++ allBytes (L.drop (k + 1)) := by rw [← allBytes_append, List.take_append_drop]
    have e2 := congrArg List.length e
    rw [List.length_append] at e2
    have e3 := allBytes_take L k hkl
    unfold ordM
    cases D
    · simp only [Bool.false_eq_true, if_false]
      rw [allBytes_append, List.length_append]; omega
    · simp only [if_true]
      rw [allBytes_append, allBytes_append, List.length_append, List.length_append, List.getElem?_eq_getElem hkl]
      have : allBytes (Option.toList (some L[k])) = L[k].bytes := by simp [allBytes]
      rw [this]; omega
  have hAll := fun v w' hR => all_any (ordM D L k) v w' hR hMI hMb
  have hRd := fun w' hg => jRead_any (ordM D L k) w' hMI hMb hg
  have HAll := Lib.hid hAll
  have HRd := Lib.hid hRd
  have hM := hM k hkl
  have hty := hty k hkl
  have HM := Lib.hid hM
  have HTY := Lib.hid hty
  clear hAll hRd hM hty hMI hMb hbx hxI hI hP hpl hbl a0 a1 a2 a3 hcells
  have hlt1 : (L.take k).length = k := by rw [List.length_take]; omega
  have hlt2 : (L.drop (k + 1)).length = L.length - (k + 1) := by rw [List.length_drop]
  have hlt3 : (L.take (k + 1)).length = k + 1 := by rw [List.length_take]; omega
  have HT1 := Lib.hid hlt1
  have HT2 := Lib.hid hlt2
  have HT3 := Lib.hid hlt3
  clear hlt1 hlt2 hlt3
  go_wp2_with fail
  refine Rg.region1 138 [.val ?_, .val ?_, .val (.slice (some ⟨g, 0, none⟩) k cap), .any (Rg.Row 27 4 (L.take k).length (recCells (L.take k))), .val ?_, .val ?_, .val ?_, .val (.slice (if cap = k + 1 then some ⟨g, 0, none⟩ else some ⟨g, (k + 1) * 4, none⟩) (L.length - (k + 1)) (cap - (k + 1))), .any (Rg.Row 27 4 ((L.take k).length + (L.drop (k + 1)).length) (recCells (L.take k) ++ recCells (L.drop (k + 1)))), .any (Rg.Row 27 4 ((L.take k).length + (L.drop (k + 1)).length) (recCells (L.take k) ++ recCells (L.drop (k + 1))))] [[], [], [], [], [], [], [], [], [3], [8]] (fun _ _ => False) (by kernel_rfl) (by decide +kernel) (by simp) rfl (by simp) ?hstab ?hown ?hdis ?hchain ?hend
  case hstab => exact Rg.stable_val (Rg.stable_val (Rg.stable_val (Rg.stable_row (Rg.stable_val (Rg.stable_val (Rg.stable_val (Rg.stable_val (Rg.stable_row (Rg.stable_row (Rg.stable_nil))))))))))
  case hchain =>
    intro vs
    -- 0: slot 28 := Op.move t7
    refine Rg.Chain.pure rfl (fun w => by go_simp; (try go_ints); with_reducible rfl) ?_
    simp only [Act.put, List.setIfInBounds_toArray, List.set_cons_succ, List.set_cons_zero]
    -- 1: slot 29 := Op.move t8
    refine Rg.Chain.pure rfl (fun w => by go_simp; (try go_ints); with_reducible rfl) ?_
    simp only [Act.put, List.setIfInBounds_toArray, List.set_cons_succ, List.set_cons_zero]
    -- 2: slot 30 := Op.slice 22 t28 none (some t29) none
    refine Rg.Chain.pure rfl (fun w => by go_simp; intro h; exfalso; omega) ?_
    simp only [Act.put, List.setIfInBounds_toArray, List.set_cons_succ, List.set_cons_zero]
    -- 3: slot 31 := Op.call ( builtin append, args := #[const (Value.slice none 0 0), t30], argTypes := #[22, 
    refine Rg.Chain.appendNew rfl _ _ rfl rfl rfl (fun wx hs => by have h := takeO_reads (own_kept ho (Rg.step_below (hs.mono fun k _ hk => by obtain ⟨_, h⟩ := hk; exact h.elim))) k (by omega) cap (by omega) hcap2; exact h) (rec_one _) (by have := HT1.out; omega) ?_
    simp only [Act.put, List.setIfInBounds_toArray, List.set_cons_succ, List.set_cons_zero]
    -- 4: slot 32 := Op.move t7
    refine Rg.Chain.pure rfl (fun w => by go_simp; (try go_ints); with_reducible rfl) ?_
    simp only [Act.put, List.setIfInBounds_toArray, List.set_cons_succ, List.set_cons_zero]
    -- 5: slot 33 := Op.move t8
    refine Rg.Chain.pure rfl (fun w => by go_simp; (try go_ints); with_reducible rfl) ?_
    simp only [Act.put, List.setIfInBounds_toArray, List.set_cons_succ, List.set_cons_zero]
    -- 6: slot 34 := Op.binOp BinOp.add 3 t33 (const (1:i64)) 3
    refine Rg.Chain.pure rfl (fun w => by go_simp; (try go_ints); with_reducible rfl) ?_
    simp only [Act.put, List.setIfInBounds_toArray, List.set_cons_succ, List.set_cons_zero]
    -- 7: slot 35 := Op.slice 22 t32 (some t34) none none
    refine Rg.Chain.pure rfl (fun w => by go_simp; intro h; exfalso; have := h (by omega); omega) ?_
    simp only [Act.put, List.setIfInBounds_toArray, List.set_cons_succ, List.set_cons_zero]
    -- 8: slot 36 := Op.call ( builtin append, args := #[t31, t35], argTypes := #[22, 22] )
    refine Rg.Chain.appendRead 3 rfl _ _ rfl rfl rfl (fun wx hs => by have h := drop_reads (own_kept ho (Rg.step_below (hs.mono fun k _ hk => by obtain ⟨_, h⟩ := hk; exact h.elim))) k hkl hcap1 hcap2 (if cap = k + 1 then some ⟨g, 0, none⟩ else some ⟨g, (k + 1) * 4, none⟩) (fun h => if_neg (by omega)); exact h) rfl (by decide) (Rg.only 8 3 (by decide)) (by decide) (rec_one _) (by have := HT1.out; have := HT2.out; omega) ?_
    simp only [Act.put, List.setIfInBounds_toArray, List.set_cons_succ, List.set_cons_zero]
    -- 9: slot 9 := Op.assign t36
    refine Rg.Chain.take 8 rfl rfl (by decide) (Rg.only 9 8 (by decide)) (by decide) (fun w => by go_simp) ?_
    simp only [Act.put, List.setIfInBounds_toArray, List.set_cons_succ, List.set_cons_zero]
    exact Rg.Chain.nil
  case hown => exact fun j k h => h.elim
  case hdis => exact fun i j k h => h.elim
  case hend =>
    intro vs F w4 hE
    have hrow := Rg.end_row (B := w3.heap.size) hE (Rg.kept 9 (by decide)) rfl (Nat.le_refl _) (fun j k h => h.elim)
    have U4 := Rg.step_from hE.step (Nat.le_refl _) (fun j k h => h.elim)
    have ho4 := own_kept ho U4
    clear hE ho
    simp only [Rg.finalAct, Rg.slot_val, Rg.slot_any, Act.put, List.setIfInBounds_toArray, List.set_cons_succ, List.set_cons_zero]
    generalize vs 9 = v9 at *
    generalize vs 3 = x3
    generalize vs 8 = x8
    obtain ⟨a9, c9, rfl⟩ := own_slice hrow
    generalize (if cap = k + 1 then some (⟨g, 0, none⟩ : Addr) else some ⟨g, (k + 1) * 4, none⟩) = A35
    have hrd9 : Reads w4 (.slice a9 ((L.take k).length + (L.drop (k + 1)).length) c9) 4 (ordM false L k).length (recCells (ordM false L k)) := by
      have h := own_reads hrow
      rw [← recCells_append] at h
      have e : (ordM false L k).length = (L.take k).length + (L.drop (k + 1)).length := by unfold ordM; simp only [Bool.false_eq_true, if_false, List.length_append]
      rw [e]
      exact h
    clear hrow
    generalize (L.take k).length + (L.drop (k + 1)).length = n9 at *
    cases D with
    | false =>
      have hrd := hrd9
      clear hrd9 ho4
      go_wp2_with fail
      refine (HAll.out _ _ hrd).mono ?_
      rintro e w5 ⟨rfl, hb⟩
      have U5 := below_later U4 hb
      clear hb hrd
      go_wp2_with fail
      refine (HRd.out _ (HG.out _ (below_later W3 U5))).mono ?_
      rintro e w6 ⟨hout, hb⟩
      have U6 := below_later U5 hb
      clear hb U5
      rw [← U6.cell hgl] at c0 c1 c2 c3
      have zg := Nat.lt_of_lt_of_le hgl U6.size
      have hfin := below_later W3 U6
      clear U6 W3 U4
      have hTY := HTY.out
      rcases HM.out with ⟨h18, hcase⟩ | ⟨hk0, hD, hlast, s, r0, rl, rwh⟩ | ⟨hk0, hd1, hd2, hcnt⟩
      · rcases hout with ⟨_, rfl⟩ | ⟨h0, _⟩
        rotate_left
        · rw [h18] at h0; exact absurd h0 (by decide)
        rw [h18]
        clear h18
        rcases hcase with hk | ⟨hD, hl, hc⟩ | ⟨hD, hk, hl, hc⟩
        · have qt : (L[k].t == 1) = true := by simpa using hTY.2 hk
          clear hTY HM HTY hk
          generalize L[k].t = xt at *
          generalize L[k].id = xi at *
          generalize L[k].c = xc at *
          generalize L[k].p = xp at *
          go_wp2_with fail
          refine (is_num 18 18 _).mono ?_
          rintro e w7 ⟨rfl, rfl⟩
          go_wp2_with fail
          go_ret
          exact ⟨rfl, hfin⟩
        · cases hD
        · have qt : (L[k].t == 1) = false := by simpa using fun h => hk (hTY.1 h)
          have qc : (L[k].c == []) = true := by simpa using hc
          have ql : ((k : Int) == (L.length : Int) - 1) = false := by simp; omega
          clear hc hl
          clear hTY HM HTY
          generalize L[k].t = xt at *
          generalize L[k].id = xi at *
          generalize L[k].c = xc at *
          generalize L[k].p = xp at *
          go_wp2_with fail
          refine (is_num 18 18 _).mono ?_
          rintro e w7 ⟨rfl, rfl⟩
          go_wp2_with fail
          go_ret
          exact ⟨rfl, hfin⟩
      · rcases hout with ⟨h0, _⟩ | ⟨_, v6, rfl, hrow6⟩
        · exact absurd r0 h0
        have qt : (L[k].t == 1) = false := by simpa using fun h => hk0 (hTY.1 h)
        have ql : ((k : Int) == (L.length : Int) - 1) = true := by simp; omega
        rw [rl] at hrow6
        obtain ⟨rows, e1, ow, prs⟩ := hrow6
        obtain ⟨q, rfl⟩ : ∃ q, rows = [q] := by
          match rows, e1 with
          | [q], _ => exact ⟨q, rfl⟩
          | [], e1 => simp at e1
          | _ :: _ :: _, e1 => simp at e1
        simp only [List.map_cons, List.map_nil, List.cons.injEq, and_true] at e1
        obtain ⟨qs, pv⟩ := q
        simp only at e1
        subst e1
        obtain ⟨g2, cap2, rfl, _, hgl2, hc2⟩ := own_open ow (by simp)
        have d3 := hc2 3 _ rfl
        rw [rwh] at d3
        simp only [List.length_cons, List.length_nil] at *
        clear hc2 ow prs hTY HM HTY r0 rl rwh
        generalize L[k].t = xt at *
        generalize L[k].id = xi at *
        generalize L[k].c = xc at *
        generalize L[k].p = xp at *
        go_wp2_with fail
        go_ret
        exact ⟨rfl, hfin⟩
      · have qt : (L[k].t == 1) = false := by simpa using fun h => hk0 (hTY.1 h)
        have hsp : (L[k].c == []) = false ∧ ((k : Int) == (L.length : Int) - 1) = false := by
          obtain ⟨h1, h2⟩ := hd2 (by simp)
          exact ⟨by simpa using h2, by simp; omega⟩
        rcases hout with ⟨hC, rfl⟩ | ⟨hz0, v6, rfl, hrow6⟩
        · clear hTY HM HTY hcnt hd1 hd2
          generalize (JS.empty.run 0 (ordM false L k)).2 = C at *
          generalize L[k].t = xt at *
          generalize L[k].id = xi at *
          generalize L[k].c = xc at *
          generalize L[k].p = xp at *
          obtain ⟨qc, ql⟩ := hsp
          all_goals
            go_wp2_with fail
            go_ret
            exact ⟨rfl, hfin⟩
        · have h1 := hcnt hz0
          obtain ⟨rows, e1, ow, prs⟩ := hrow6
          have hrl : rows.length = 1 := by rw [e1] at h1; simpa using h1
          obtain ⟨a6, c6, rfl⟩ := own_slice ow
          rw [hrl]
          clear hTY HM HTY hcnt hd1 hd2 ow prs e1 h1 hrl hz0
          generalize L[k].t = xt at *
          generalize L[k].id = xi at *
          generalize L[k].c = xc at *
          generalize L[k].p = xp at *
          obtain ⟨qc, ql⟩ := hsp
          all_goals
            go_wp2_with fail
            go_ret
            exact ⟨rfl, hfin⟩
    | true =>
      clear hrd9
      have d0 : w4.cell? ⟨g, k * 4, none⟩ = some (.int .i64 L[k].t) := by rw [U4.cell hgl]; exact c0
      have d1 : w4.cell? ⟨g, k * 4 + 1, none⟩ = some (.int .i64 L[k].id) := by rw [U4.cell hgl]; exact c1
      have d2 : w4.cell? ⟨g, k * 4 + 2, none⟩ = some (.string (bs L[k].c)) := by rw [U4.cell hgl]; exact c2
      have d3 : w4.cell? ⟨g, k * 4 + 3, none⟩ = some (.int .i64 L[k].p) := by rw [U4.cell hgl]; exact c3
      have zg4 := Nat.lt_of_lt_of_le hgl U4.size
      have hS : ∀ wx, Rg.Step (fun k => ∃ j, (fun (_ : Nat) (_ : Nat) => False) j k) w4 wx → wx.cell? ⟨g, k * 4, none⟩ = some (.int .i64 L[k].t) ∧ wx.cell? ⟨g, k * 4 + 1, none⟩ = some (.int .i64 L[k].id) ∧ wx.cell? ⟨g, k * 4 + 2, none⟩ = some (.string (bs L[k].c)) ∧ wx.cell? ⟨g, k * 4 + 3, none⟩ = some (.int .i64 L[k].p) ∧ g < wx.heap.size := by
        intro wx hs
        have hb := Rg.step_below (hs.mono fun k _ hk => by obtain ⟨_, h⟩ := hk; exact h.elim)
        rw [hb.cell zg4, hb.cell zg4, hb.cell zg4, hb.cell zg4]
        exact ⟨d0, d1, d2, d3, Nat.lt_of_lt_of_le zg4 hb.size⟩
      clear d0 d1 d2 d3
      go_wp2_with fail
      refine Rg.region1 138 [.val ?_, .val ?_, .val ?_, .val (.slice (some ⟨g, 0, none⟩) (k + 1) cap), .any (Rg.Row 27 4 (L.take (k + 1)).length (recCells (L.take (k + 1)))), .val ?_, .val ?_, .val ?_, .val (.agg #[.int .i64 L[k].t, .int .i64 L[k].id, .string (bs L[k].c), .int .i64 L[k].p]), .any (Rg.Row 27 4 1 (recCells [L[k]])), .any (Rg.Row 27 4 ((L.take (k + 1)).length + 1) (recCells (L.take (k + 1)) ++ recCells [L[k]])), .val ?_, .val ?_, .val ?_, .val (.slice (if cap = k + 1 then some ⟨g, 0, none⟩ else some ⟨g, (k + 1) * 4, none⟩) (L.length - (k + 1)) (cap - (k + 1))), .any (Rg.Row 27 4 ((L.take (k + 1)).length + 1 + (L.drop (k + 1)).length) (recCells (L.take (k + 1)) ++ recCells [L[k]] ++ recCells (L.drop (k + 1)))), .any (Rg.Row 27 4 ((L.take (k + 1)).length + 1 + (L.drop (k + 1)).length) (recCells (L.take (k + 1)) ++ recCells [L[k]] ++ recCells (L.drop (k + 1))))] [[], [], [], [], [], [], [], [], [], [], [4], [], [], [], [], [10], [15]] (fun _ _ => False) (by kernel_rfl) (by decide +kernel) (by simp) rfl (by simp) ?hstab ?hown ?hdis ?hchain ?hend
      case hstab => exact Rg.stable_val (Rg.stable_val (Rg.stable_val (Rg.stable_val (Rg.stable_row (Rg.stable_val (Rg.stable_val (Rg.stable_val (Rg.stable_val (Rg.stable_row (Rg.stable_row (Rg.stable_val (Rg.stable_val (Rg.stable_val (Rg.stable_val (Rg.stable_row (Rg.stable_row (Rg.stable_nil)))))))))))))))))
      case hchain =>
        intro vs
        -- 0: slot 38 := Op.move t7
        refine Rg.Chain.pure rfl (fun w => by go_simp; (try go_ints); with_reducible rfl) ?_
        simp only [Act.put, List.setIfInBounds_toArray, List.set_cons_succ, List.set_cons_zero]
        -- 1: slot 39 := Op.move t8
        refine Rg.Chain.pure rfl (fun w => by go_simp; (try go_ints); with_reducible rfl) ?_
        simp only [Act.put, List.setIfInBounds_toArray, List.set_cons_succ, List.set_cons_zero]
        -- 2: slot 40 := Op.binOp BinOp.add 3 t39 (const (1:i64)) 3
        refine Rg.Chain.pure rfl (fun w => by go_simp; (try go_ints); with_reducible rfl) ?_
        simp only [Act.put, List.setIfInBounds_toArray, List.set_cons_succ, List.set_cons_zero]
        -- 3: slot 41 := Op.slice 22 t38 none (some t40) none
        refine Rg.Chain.pure rfl (fun w => by go_simp; intro h; exfalso; have := h (by omega); omega) ?_
        simp only [Act.put, List.setIfInBounds_toArray, List.set_cons_succ, List.set_cons_zero]
        -- 4: slot 42 := Op.call ( builtin append, args := #[const (Value.slice none 0 0), t41], argTypes := #[22, 
        refine Rg.Chain.appendNew rfl _ _ rfl rfl rfl (fun wx hs => by have h := takeO_reads (own_kept ho4 (Rg.step_below (hs.mono fun k _ hk => by obtain ⟨_, h⟩ := hk; exact h.elim))) (k + 1) (by omega) cap (by omega) hcap2; exact h) (rec_one _) (by have := HT3.out; omega) ?_
        simp only [Act.put, List.setIfInBounds_toArray, List.set_cons_succ, List.set_cons_zero]
        -- 5: slot 43 := Op.move t7
        refine Rg.Chain.pure rfl (fun w => by go_simp; (try go_ints); with_reducible rfl) ?_
        simp only [Act.put, List.setIfInBounds_toArray, List.set_cons_succ, List.set_cons_zero]
        -- 6: slot 44 := Op.move t8
        refine Rg.Chain.pure rfl (fun w => by go_simp; (try go_ints); with_reducible rfl) ?_
        simp only [Act.put, List.setIfInBounds_toArray, List.set_cons_succ, List.set_cons_zero]
        -- 7: slot 45 := Op.indexAddr 22 t43 t44
        refine Rg.Chain.pure rfl (fun w => by go_simp; (try go_ints); with_reducible rfl) ?_
        simp only [Act.put, List.setIfInBounds_toArray, List.set_cons_succ, List.set_cons_zero]
        -- 8: slot 46 := Op.load 27 t45
        refine Rg.Chain.read rfl (fun wx hs => by obtain ⟨q0, q1, q2, q3, q4⟩ := hS wx hs; go_simp; try with_reducible rfl) ?_
        simp only [Act.put, List.setIfInBounds_toArray, List.set_cons_succ, List.set_cons_zero]
        -- 9: slot 47 := Op.buildSlice 22 1 #[(0, t46)]
        refine Rg.Chain.new ?_ ?_ rfl (fun w => ?_) (fun w => ?_) ?_
        rotate_left 2
        · go_simp; (try go_ints); (first | with_reducible rfl | (constructor <;> with_reducible rfl))
        · exact row_rec w L[k]
        simp only [Act.put, List.setIfInBounds_toArray, List.set_cons_succ, List.set_cons_zero]
        -- 10: slot 48 := Op.call ( builtin append, args := #[t42, t47], argTypes := #[22, 22] )
        obtain ⟨ti, hti, hzz, hsz, hby⟩ := inf_rec
        refine Rg.Chain.append 4 9 rfl 22 27 _ _ ti _ _ _ rfl rfl rfl (Tryd.underlying22) hti hzz hsz hby rfl (by decide) rfl rfl (by decide) (by decide) (Rg.only 10 4 (by decide)) (Rg.only 10 9 (by decide)) (by decide) (rec_one _) (by have := HT3.out; unfold maxLen; omega) (by have := HT3.out; omega) ?_
        simp only [Act.put, List.setIfInBounds_toArray, List.set_cons_succ, List.set_cons_zero]
        -- 11: slot 49 := Op.move t7
        refine Rg.Chain.pure rfl (fun w => by go_simp; (try go_ints); with_reducible rfl) ?_
        simp only [Act.put, List.setIfInBounds_toArray, List.set_cons_succ, List.set_cons_zero]
        -- 12: slot 50 := Op.move t8
        refine Rg.Chain.pure rfl (fun w => by go_simp; (try go_ints); with_reducible rfl) ?_
        simp only [Act.put, List.setIfInBounds_toArray, List.set_cons_succ, List.set_cons_zero]
        -- 13: slot 51 := Op.binOp BinOp.add 3 t50 (const (1:i64)) 3
        refine Rg.Chain.pure rfl (fun w => by go_simp; (try go_ints); with_reducible rfl) ?_
        simp only [Act.put, List.setIfInBounds_toArray, List.set_cons_succ, List.set_cons_zero]
        -- 14: slot 52 := Op.slice 22 t49 (some t51) none none
        refine Rg.Chain.pure rfl (fun w => by go_simp; intro h; exfalso; have := h (by omega); omega) ?_
        simp only [Act.put, List.setIfInBounds_toArray, List.set_cons_succ, List.set_cons_zero]
        -- 15: slot 53 := Op.call ( builtin append, args := #[t48, t52], argTypes := #[22, 22] )
        refine Rg.Chain.appendRead 10 rfl _ _ rfl rfl rfl (fun wx hs => by have h := drop_reads (own_kept ho4 (Rg.step_below (hs.mono fun k _ hk => by obtain ⟨_, h⟩ := hk; exact h.elim))) k hkl hcap1 hcap2 (if cap = k + 1 then some ⟨g, 0, none⟩ else some ⟨g, (k + 1) * 4, none⟩) (fun h => if_neg (by omega)); exact h) rfl (by decide) (Rg.only 15 10 (by decide)) (by decide) (rec_one _) (by have := HT3.out; have := HT2.out; omega) ?_
        simp only [Act.put, List.setIfInBounds_toArray, List.set_cons_succ, List.set_cons_zero]
        -- 16: slot 9 := Op.assign t53
        refine Rg.Chain.take 15 rfl rfl (by decide) (Rg.only 16 15 (by decide)) (by decide) (fun w => by go_simp) ?_
        simp only [Act.put, List.setIfInBounds_toArray, List.set_cons_succ, List.set_cons_zero]
        exact Rg.Chain.nil
      case hown => exact fun j k h => h.elim
      case hdis => exact fun i j k h => h.elim
      case hend =>
        intro vs F w7 hE
        have hrow := Rg.end_row (B := w4.heap.size) hE (Rg.kept 16 (by decide)) rfl (Nat.le_refl _) (fun j k h => h.elim)
        have U7 := below_later U4 (Rg.step_from hE.step (Nat.le_refl _) (fun j k h => h.elim))
        clear hE ho4 hS U4
        simp only [Rg.finalAct, Rg.slot_val, Rg.slot_any, Act.put, List.setIfInBounds_toArray, List.set_cons_succ, List.set_cons_zero]
        generalize vs 16 = v16 at *
        generalize vs 4 = y4
        generalize vs 9 = y9
        generalize vs 10 = y10
        generalize vs 15 = y15
        obtain ⟨a16, c16, rfl⟩ := own_slice hrow
        generalize (if cap = k + 1 then some (⟨g, 0, none⟩ : Addr) else some ⟨g, (k + 1) * 4, none⟩) = A52
        have hrd : Reads w7 (.slice a16 ((L.take (k + 1)).length + 1 + (L.drop (k + 1)).length) c16) 4 (ordM true L k).length (recCells (ordM true L k)) := by
          have h := own_reads hrow
          have e0 : ordM true L k = L.take (k + 1) ++ [L[k]] ++ L.drop (k + 1) := by unfold ordM; simp only [if_true]; rw [List.getElem?_eq_getElem hkl]; rfl
          rw [← recCells_append, ← recCells_append, ← e0] at h
          have e : (ordM true L k).length = (L.take (k + 1)).length + 1 + (L.drop (k + 1)).length := by rw [e0]; simp only [List.length_append, List.length_cons, List.length_nil]
          rw [e]
          exact h
        clear hrow
        generalize (L.take (k + 1)).length + 1 + (L.drop (k + 1)).length = n16 at *
        go_wp2_with fail
        refine (HAll.out _ _ hrd).mono ?_
        rintro e w5 ⟨rfl, hb⟩
        have U5 := below_later U7 hb
        clear hb hrd
        go_wp2_with fail
        refine (HRd.out _ (HG.out _ (below_later W3 U5))).mono ?_
        rintro e w6 ⟨hout, hb⟩
        have U6 := below_later U5 hb
        clear hb U5
        rw [← U6.cell hgl] at c0 c1 c2 c3
        have zg := Nat.lt_of_lt_of_le hgl U6.size
        have hfin := below_later W3 U6
        clear U6 W3 U7
        have hTY := HTY.out
        rcases HM.out with ⟨h18, hcase⟩ | ⟨hk0, hD, hlast, s, r0, rl, rwh⟩ | ⟨hk0, hd1, hd2, hcnt⟩
        · rcases hout with ⟨_, rfl⟩ | ⟨h0, _⟩
          rotate_left
          · rw [h18] at h0; exact absurd h0 (by decide)
          rw [h18]
          clear h18
          rcases hcase with hk | ⟨hD, hl, hc⟩ | ⟨hD, hk, hl, hc⟩
          · have qt : (L[k].t == 1) = true := by simpa using hTY.2 hk
            clear hTY HM HTY hk
            generalize L[k].t = xt at *
            generalize L[k].id = xi at *
            generalize L[k].c = xc at *
            generalize L[k].p = xp at *
            go_wp2_with fail
            refine (is_num 18 18 _).mono ?_
            rintro e w7 ⟨rfl, rfl⟩
            go_wp2_with fail
            go_ret
            exact ⟨rfl, hfin⟩
          · have hk0 : k ≠ 0 := by omega
            have qt : (L[k].t == 1) = false := by simpa using fun h => hk0 (hTY.1 h)
            have qc : (L[k].c == []) = true := by simpa using hc
            have ql : ((k : Int) == (L.length : Int) - 1) = true := by simp; omega
            clear hc hl
            clear hTY HM HTY
            generalize L[k].t = xt at *
            generalize L[k].id = xi at *
            generalize L[k].c = xc at *
            generalize L[k].p = xp at *
            go_wp2_with fail
            refine (is_num 18 18 _).mono ?_
            rintro e w7 ⟨rfl, rfl⟩
            go_wp2_with fail
            go_ret
            exact ⟨rfl, hfin⟩
          · cases hD
        · cases hD
        · have qt : (L[k].t == 1) = false := by simpa using fun h => hk0 (hTY.1 h)
          have hsp : ((L[k].c == []) = false) ∨ ((L[k].c == []) = true ∧ ((k : Int) == (L.length : Int) - 1) = false) := by
            by_cases hc : L[k].c = []
            · have := hd1 (by simp)
              exact .inr ⟨by simpa using hc, by simp; intro h; exact this ⟨by omega, hc⟩⟩
            · exact .inl (by simpa using hc)
          rcases hout with ⟨hC, rfl⟩ | ⟨hz0, v6, rfl, hrow6⟩
          · clear hTY HM HTY hcnt hd1 hd2
            generalize (JS.empty.run 0 (ordM true L k)).2 = C at *
            generalize L[k].t = xt at *
            generalize L[k].id = xi at *
            generalize L[k].c = xc at *
            generalize L[k].p = xp at *
            rcases hsp with qc | ⟨qc, ql⟩
            all_goals
              go_wp2_with fail
              go_ret
              exact ⟨rfl, hfin⟩
          · have h1 := hcnt hz0
            obtain ⟨rows, e1, ow, prs⟩ := hrow6
            have hrl : rows.length = 1 := by rw [e1] at h1; simpa using h1
            obtain ⟨a6, c6, rfl⟩ := own_slice ow
            rw [hrl]
            clear hTY HM HTY hcnt hd1 hd2 ow prs e1 h1 hrl hz0
            generalize L[k].t = xt at *
            generalize L[k].id = xi at *
            generalize L[k].c = xc at *
            generalize L[k].p = xp at *
            rcases hsp with qc | ⟨qc, ql⟩
            all_goals
              go_wp2_with fail
              go_ret
              exact ⟨rfl, hfin⟩
theorem jo_said (s : ByteArray) (a : Int) (D : Bool) (w : World) (hs : s.size ≤ maxLen) (wa : (Lit.int .u8 a).wf = true) (hg : w.cell? ⟨0, 0, none⟩ = some errTypeV) :
    Calls Tryd.prog 5 #[.string s, .int .u8 a, .bool D] w fun e w' => e = .returned (.bool true) ∧ Below w.heap.size w w' := by
  rw [bs_of s]
  exact jo_any _ a D w (wf_u8 wa).1 (wf_u8 wa).2 (size_bs hs) hg
end Go.Proofs.YtbhdoechhfgpeaaRRRDoor
