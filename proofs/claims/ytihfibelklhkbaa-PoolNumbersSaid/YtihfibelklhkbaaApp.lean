/- append, as an operation of a region that draws its order: what it is added to is taken up, what is added is read. Conditions: the sum of the lengths is one that an int tells, and of 2^47 bytes at the most. -/
import Derived.Test.YtihfibelklhkbaaBase
namespace Go.Proofs.Ytihfibelklhkbaa
open Go.RowKit
namespace Rg

theorem row_kept {e : TypeId} {size n : Nat} {xs : List Value} {v : Value} {F : Nat → Prop} {w : World} (h : Row e size n xs v F w) {G : Nat → Prop} (hG : ∀ k, F k → G k) : Row e size n xs v G w := ⟨h.1, fun k hk => hG k (h.2 k hk)⟩

theorem row_lt {e : TypeId} {size n : Nat} {xs : List Value} {v : Value} {F : Nat → Prop} {w : World} (h : Row e size n xs v F w) : ∀ k, v.ownBlock = some k → k < w.heap.size := fun k hk => (h.1.lt k hk).2

theorem own_ends {P : Program} (w : World) (t ty e : TypeId) (i : TypeInfo) (z : Value) (size bytes : Nat) (ht : P.underlying t = some (.slice e)) (hi : P.info? e = some i) (hz : i.zero = some z)
    (hsize : i.size = size) (hby : i.bytes = bytes) (hzs : z.cells.size = size) (hsz : 0 < size)
    (v : Value) (n : Nat) (xs : List Value) (hown : w.ownsRow 0 e size v n xs)
    (a : Addr) (m c : Nat) (news : List Value) (hl : news.length = m * size) (hnews : ∀ j u, news[j]? = some u → w.cell? (a.add j) = some u) (h1 : ∀ u ∈ news, u.oneCell' = true)
    (h63 : n + m ≤ maxLen) (hbytes : (n + m) * bytes ≤ 140737488355328) :
    ∃ v' w', (Builtin.append_ #[t, t] ty #[v, .slice (some a) m c]).run P w = .ok v' w' ∧ w'.ownsRow 0 e size v' (n + m) (xs ++ news) ∧ w.grownBy w' v.ownBlock ∧
      ∀ k, v'.ownBlock = some k → v.ownBlock = some k ∨ k = w.heap.size := by
  obtain ⟨v', w', hr, h2, h3, h4⟩ := run_append_own (P := P) w 0 t ty e i z size bytes ht hi hz hsize hby hzs hsz v n xs hown a m c news hl hnews h1 h63 hbytes (Nat.zero_le _)
  refine ⟨v', w', hr, h2, h3, ?_⟩
  subst hsize; subst hby
  have hsmall : n + m ≤ 9223372036854775807 := by simp only [maxLen] at h63; omega
  intro k hk
  rcases hown.2 with ⟨rfl, rfl⟩ | ⟨g, cap, cur, rfl, hbg, hg, hnc, hcm, hcs, htake⟩
  · by_cases hm : m = 0
    · have := (h4.2 ⟨rfl, hm⟩); subst this; simp [Value.ownBlock] at hk
    · have hr2 := run_append_nil (P := P) w t ty e i z ht hi hz a m c news hl hnews (by omega) (by omega) (by have hb := hbytes; simp only [Nat.zero_add] at hb; omega)
      rw [hr] at hr2
      injection hr2 with hv hw
      subst hv
      simp [Value.ownBlock] at hk
      exact .inr hk.symm
  · by_cases hroom : n + m ≤ cap
    · have hfit : n * i.size + news.length ≤ cur.size := by rw [hl, hcs, ← Nat.add_mul]; exact Nat.mul_le_mul_right _ hroom
      have hr2 := run_append_room (P := P) w t ty e i ht hi g n cap cur hg a m c news hl hnews h1 hroom hfit
      rw [hr] at hr2
      injection hr2 with hv hw
      subst hv
      exact .inl hk
    · have holds : ∀ j u, xs[j]? = some u → w.cell? ((⟨g, 0, none⟩ : Addr).add j) = some u := hown.cells (g := g) rfl
      have hr2 := run_append_grow (P := P) w t ty e i z ht hi hz ⟨g, 0, none⟩ n cap xs hown.1 holds a m c news hl hnews (by omega) (by omega) (growslice_fits (by omega) hbytes)
      rw [hr] at hr2
      injection hr2 with hv hw
      subst hv
      simp [Value.ownBlock] at hk
      exact .inr hk.symm

/-- append(v, u...), both rows. -/
theorem run_append_rows {P : Program} (w : World) (t ty e : TypeId) (i : TypeInfo) (z : Value) (size bytes : Nat) (ht : P.underlying t = some (.slice e)) (hi : P.info? e = some i) (hz : i.zero = some z)
    (hsize : i.size = size) (hby : i.bytes = bytes) (hzs : z.cells.size = size) (hsz : 0 < size)
    {v u : Value} {n m : Nat} {xs ys : List Value} {F G : Nat → Prop} (hv : Row e size n xs v F w) (hu : Row e size m ys u G w) (h1 : ∀ y ∈ ys, y.oneCell' = true)
    (h63 : n + m ≤ maxLen) (hbytes : (n + m) * bytes ≤ 140737488355328) :
    ∃ v' w', (Builtin.append_ #[t, t] ty #[v, u]).run P w = .ok v' w' ∧ Row e size (n + m) (xs ++ ys) v' (fun k => k < w'.heap.size ∧ (w.heap.size ≤ k ∨ F k)) w' ∧ Step F w w' := by
  rcases hu.1.2 with ⟨rfl, rfl⟩ | ⟨g, cap, cur, rfl, _⟩
  · have hy : ys = [] := List.eq_nil_of_length_eq_zero (by have := hu.1.1; omega)
    subst hy
    refine ⟨v, w, run_append_owned_none w 0 t ty e i size ht hi v n xs hv.1, ?_, Step.refl _ _⟩
    refine ⟨by simpa using hv.1, fun k hk => ⟨row_lt hv k hk, .inr (hv.2 k hk)⟩⟩
  · obtain ⟨v', w', hr, h2, h3, h4⟩ := own_ends w t ty e i z size bytes ht hi hz hsize hby hzs hsz v n xs hv.1 ⟨g, 0, none⟩ m cap ys hu.1.1 (hu.1.cells (g := g) rfl) h1 h63 hbytes
    refine ⟨v', w', hr, ⟨h2, fun k hk => ⟨(h2.lt k hk).2, ?_⟩⟩, ⟨h3.os, h3.tape, h3.output, h3.size, fun k hk hm => h3.block k hk (fun hx => hm (hv.2 k hx.symm))⟩⟩
    rcases h4 k hk with h | h
    · exact .inr (hv.2 k h)
    · exact .inl (by omega)

section
variable {P : Program} {ops : Array Oper} {w0 : World} {own0 : Nat → Nat → Prop} {cons : Nat → List Nat} {facts : List Fact} {i : Nat} {o : Oper} {vs : Nat → Value} {a : Act} {os : List Oper} {φs : List Fact}

/-- The step of an append whose two operands are facts d1 (taken up) and d2 (read). -/
theorem Chain.append (d1 d2 : Nat) (hg : Region.wanted o (yielded ops a.tmps) = true) (t e : TypeId) (x y : Operand) (ti : TypeInfo) (z : Value) (size bytes : Nat)
    (ho : o.op = .call { callee := .builtin .append, args := #[x, y], argTypes := #[t, t] }) (hx : a.eval x = vs d1) (hy : a.eval y = vs d2)
    (ht : P.underlying t = some (.slice e)) (hi : P.info? e = some ti) (hz : ti.zero = some z) (hsize : ti.size = size) (hby : ti.bytes = bytes) (hzs : z.cells.size = size) (hsz : 0 < size)
    {n m : Nat} {xs ys : List Value} (hf1 : facts[d1]? = some (.any (Row e size n xs))) (hf2 : facts[d2]? = some (.any (Row e size m ys)))
    (hd1 : (deps o).contains d1 = true) (hd2 : (deps o).contains d2 = true) (hn1 : ∀ j, j ≠ i → d1 ∉ cons j) (hn2 : ∀ j, j ≠ i → d2 ∉ cons j) (hc : d1 ∈ cons i)
    (h1 : ∀ y ∈ ys, y.oneCell' = true) (h63 : n + m ≤ maxLen) (hbytes : (n + m) * bytes ≤ 140737488355328)
    (hr : Chain P ops w0 own0 cons facts vs os φs (i + 1) (a.put o.dst (vs i))) :
    Chain P ops w0 own0 cons facts vs (o :: os) (.any (Row e size (n + m) (xs ++ ys)) :: φs) i a := by
  refine ⟨?_, hr⟩
  intro F w K hp hK
  have hv := hp.fact d1 _ (by simpa using hd1) hn1 hf1
  have hu := hp.fact d2 _ (by simpa using hd2) hn2 hf2
  obtain ⟨v', w', hrun, hrow, hst⟩ := run_append_rows (P := P) w t o.type e ti z size bytes ht hi hz hsize hby hzs hsz hv hu h1 h63 hbytes
  rw [if_pos hg]
  unfold Oper.wp execOp
  simp only [ho, resolve, invoke, builtin, Sem.run_bind, Sem.run_pure, Result.andThen_ok, List.map_toArray, List.map_cons, List.map_nil, hx, hy, hrun]
  refine hK v' w' ⟨_, hst.mono (fun k _ hk => .inr ⟨d1, hc, hk⟩), hrow, ?_⟩
  rintro k ⟨hk, h⟩
  refine ⟨hk, ?_⟩
  rcases h with h | h
  · exact .inl h
  · exact .inr (.inr ⟨d1, hc, h⟩)

/-- The step of a move, of an assignment, whose operand is fact d: it is taken up. -/
theorem Chain.take (d : Nat) {p : Value → (Nat → Prop) → World → Prop} (hf : facts[d]? = some (.any p)) (hg : Region.wanted o (yielded ops a.tmps) = true) (hd : (deps o).contains d = true) (hn : ∀ j, j ≠ i → d ∉ cons j) (hc : d ∈ cons i)
    (h : ∀ w, (execOp a.eval o).run P w = .ok (.value (vs d)) w)
    (hr : Chain P ops w0 own0 cons facts vs os φs (i + 1) (a.put o.dst (vs i))) :
    Chain P ops w0 own0 cons facts vs (o :: os) (.any p :: φs) i a := by
  refine ⟨?_, hr⟩
  intro F w K hp hK
  have hv := hp.fact d _ (by simpa using hd) hn hf
  rw [if_pos hg]
  unfold Oper.wp
  rw [h w]
  exact hK (vs d) w ⟨F d, Step.refl _ _, hv, fun k hk => ⟨(hp.own d k (by simpa using hd) hn hk).1, .inr (.inr ⟨d, hc, hk⟩)⟩⟩

/-- The step of a move of a row that lay there ahead of the region and is this operation's own. -/
theorem Chain.start {e : TypeId} {size n : Nat} {xs : List Value} {v : Value} (hv : w0.ownsRow 0 e size v n xs) (ho : ∀ k, v.ownBlock = some k → own0 i k) (hg : Region.wanted o (yielded ops a.tmps) = true)
    (h : ∀ w, (execOp a.eval o).run P w = .ok (.value v) w)
    (hr : Chain P ops w0 own0 cons facts vs os φs (i + 1) (a.put o.dst (vs i))) :
    Chain P ops w0 own0 cons facts vs (o :: os) (.any (Row e size n xs) :: φs) i a := by
  refine ⟨?_, hr⟩
  intro F w K hp hK
  rw [if_pos hg]
  unfold Oper.wp
  rw [h w]
  refine hK v w ⟨fun k => v.ownBlock = some k, Step.refl _ _, ⟨?_, fun k hk => hk⟩, fun k hk => ⟨Nat.lt_of_lt_of_le (hv.lt k hk).2 hp.step.size, .inr (.inl (ho k hk))⟩⟩
  refine ⟨hv.1, ?_⟩
  rcases hv.2 with hn | ⟨g, cap, cur, rfl, hb, hgg, rest⟩
  · exact .inl hn
  · exact .inr ⟨g, cap, cur, rfl, hb, by rw [hp.mine g (ho g rfl)]; exact hgg, rest⟩

/-- The rule with what operations take up (cs) and what is theirs from the start (own). -/
theorem region1 {Q : Exit → Act → World → Prop} {id : Nat} (n : Nat) (facts : List Fact) (cs : List (List Nat)) (own : Nat → Nat → Prop) {ops : List Oper} (hm : P.follows .mixedOrders = true) (hok : okOps ops n cs = true) (hn : n ≤ a.tmps.size) (hlen : facts.length = ops.length) (hcs : cs.length ≤ ops.length)
    (hstab : ∀ φ ∈ facts, Stable w0 own φ) (hown : ∀ j k, own j k → k < w0.heap.size) (hdis : ∀ i j k, own i k → own j k → i = j)
    (hchain : ∀ vs, Chain P ops.toArray w0 own (fun i => cs.getD i []) facts vs ops facts 0 a)
    (hend : ∀ vs F w, End w0 own (fun i => cs.getD i []) facts vs F w → Q .normal (finalAct vs ops facts 0 a) w) :
    (Code.region id ops.toArray true).wp P Q a w0 :=
  wp_region (own0 := own) hm (okay_of hok hcs) hn (by simpa using hlen) hstab hown hdis hchain hend

/-- d is taken up by operation i alone. -/
theorem only {cs : List (List Nat)} (i d : Nat) (h : (List.range cs.length).all (fun j => j == i || !(cs.getD j []).contains d) = true) : ∀ j, j ≠ i → d ∉ (fun i => cs.getD i []) j := by
  intro j hj
  simp only [List.all_eq_true, List.mem_range] at h
  rcases Nat.lt_or_ge j cs.length with hl | hl
  · have := h j hl
    simp only [Bool.or_eq_true, beq_iff_eq, hj, false_or] at this
    simpa using this
  · simp only [List.getD_eq_getElem?_getD, List.getElem?_eq_none hl]; simp
/-- d is taken up by nobody. -/
theorem kept {cs : List (List Nat)} (d : Nat) (h : (List.range cs.length).all (fun j => !(cs.getD j []).contains d) = true) : ∀ j, d ∉ (fun i => cs.getD i []) j := by
  intro j
  simp only [List.all_eq_true, List.mem_range] at h
  rcases Nat.lt_or_ge j cs.length with hl | hl
  · have := h j hl
    simpa using this
  · simp only [List.getD_eq_getElem?_getD, List.getElem?_eq_none hl]; simp
/-- Where all that may be written lies from B on. -/
theorem step_from {own : Nat → Nat → Prop} {B : Nat} {w w' : World} (h : Step (fun k => ∃ j, own j k) w w') (hB : B ≤ w.heap.size) (ho : ∀ j k, own j k → B ≤ k) : Below B w w' :=
  ⟨h.os, h.tape, h.output, h.size, fun k hk => h.block k (by omega) (fun ⟨j, hj⟩ => by have := ho j k hj; omega)⟩
/-- The row that operation d has left lies from B on. -/
theorem end_row {own : Nat → Nat → Prop} {cons : Nat → List Nat} {facts : List Fact} {w0 w : World} {F : Nat → Nat → Prop} {B d : Nat} {e : TypeId} {size n : Nat} {xs : List Value} (hE : End w0 own cons facts vs F w)
    (hc : ∀ j, d ∉ cons j) (hf : facts[d]? = some (.any (Row e size n xs))) (hB : B ≤ w0.heap.size) (ho : ∀ j k, own j k → B ≤ k) : w.ownsRow B e size (vs d) n xs := by
  have h := hE.fact d _ hc hf
  refine ⟨h.1.1, ?_⟩
  rcases h.1.2 with hn | ⟨g, cap, cur, hv, _, rest⟩
  · exact .inl hn
  · refine .inr ⟨g, cap, cur, hv, ?_, rest⟩
    have hk := hE.own d _ g hc hf (h.2 g (by rw [hv]; rfl))
    rcases Nat.lt_or_ge g B with hlt | hge
    · exact (hk.2 ⟨by omega, fun j hj => by have := ho j g hj; omega⟩).elim
    · exact hge
end
end Rg
theorem bytes_one (l : Bs) : ∀ y ∈ l.map bv, y.oneCell' = true := by
  intro y hy
  obtain ⟨b, _, rfl⟩ := List.mem_map.1 hy
  rfl
end Go.Proofs.Ytihfibelklhkbaa
