/- Maps from int to pointers, as functions from numbers to blocks: look-up, store, delete. No condition. And what follows from it. -/
import Derived.Maps.OwnSet
import Derived.Test.YtniflggmfegnfaaDoorOnly
import Derived.Test.YtniflggmfegnfaaDoorJudgePlain
import Derived.Test.YtniflggmfegnfaaDoorOwn
import Derived.Test.YtniflggmfegnfaaDoorPairRead
import Derived.Test.YtniflggmfegnfaaDoorAid
import Derived.BigQuiet
import Derived.Test.YtniflggmfegnfaaDoorRgOwn
import Derived.Test.YtniflggmfegnfaaDoorRdBegin
/- Maps from int to pointers, as functions from numbers to blocks: look-up, store, delete. No condition. -/
namespace Go.Proofs.YtniflggmfegnfaaDoor
open Go.RowKit Go.WideElems

/-- How a pointer to a block's first cell reads: as the block's number. -/
def ptrElem : Value → Option (DataW Unit × List MemPlace)
  | .pointer none => some (.lit .nil, [])
  | .pointer (some ⟨b, 0, none⟩) => some (.lit (.int .u64 b), [])
  | _ => none
def ptrOf : Option Nat → Value
  | none => .pointer none
  | some b => .pointer (some ⟨b, 0, none⟩)
def ptrD : Option Nat → DataW Unit
  | none => .lit .nil
  | some b => .lit (.int .u64 b)
theorem ptrElem_of (x : Option Nat) : ptrElem (ptrOf x) = some (ptrD x, []) := by cases x <;> rfl
theorem ptrElem_inv {v : Value} {x : Option Nat} {ps : List MemPlace} (h : ptrElem v = some (ptrD x, ps)) : v = ptrOf x := by
  unfold ptrElem at h
  split at h
  · cases x with
    | none => rfl
    | some b => simp [ptrD] at h
  · cases x with
    | none => simp [ptrD] at h
    | some b => simp [ptrD] at h; obtain ⟨h, _⟩ := h; have h2 := Int.ofNat_inj.1 h; subst h2; rfl
  · cases h
theorem int_law : Maps.Keyed Tryd.prog 3 := Maps.int_keyed Tryd.underlying3
theorem int_key {k : Int} (h : (Lit.int .i64 k).wf = true) : keyOf Tryd.prog 3 (.int .i64 k) = some (.int .i64 k) := Maps.keyOf_int_mk Tryd.underlying3 h

/-- Block mb is a map of at most n entries; f tells the block that a key leads to. -/
def PMap (w : World) (mb n : Nat) (f : Int → Option Nat) : Prop :=
  ∃ D : DataW Unit, w.ownsMap Tryd.prog 3 ptrElem mb n D ∧ ∀ k, (Lit.int .i64 k).wf = true → Maps.has D (.int .i64 k) = (f k).isSome ∧ D.atKey (.int .i64 k) (.lit .nil) = ptrD (f k)

theorem PMap.made (w : World) : PMap (w.alloc (.map #[] 0)) w.heap.size 0 (fun _ => none) :=
  ⟨_, World.ownsMap_made w _ _ _, fun k _ => ⟨rfl, rfl⟩⟩
theorem PMap.mono {w : World} {mb n m : Nat} {f : Int → Option Nat} (h : PMap w mb n f) (hn : n ≤ m) : PMap w mb m f := by
  obtain ⟨D, h1, h2⟩ := h
  exact ⟨D, h1.mono hn, h2⟩
theorem PMap.lt {w : World} {mb n : Nat} {f : Int → Option Nat} (h : PMap w mb n f) : mb < w.heap.size := by obtain ⟨D, h1, _⟩ := h; exact h1.lt
theorem PMap.step {w w' : World} {mb n : Nat} {f : Int → Option Nat} {M : Nat → Prop} (h : PMap w mb n f) (hs : Rg.Step M w w') (hM : ¬ M mb) : PMap w' mb n f := by
  obtain ⟨D, ⟨es, clock, hb, r⟩, h2⟩ := h
  exact ⟨D, ⟨es, clock, by rw [hs.block mb (box_lt hb) hM]; exact hb, r⟩, h2⟩
theorem PMap.kept {w w' : World} {mb n : Nat} {f : Int → Option Nat} (h : PMap w mb n f) (hs : Below w.heap.size w w') : PMap w' mb n f :=
  h.step (Rg.below_step (M := fun _ => False) hs rfl) id
theorem PMap.only {w w' : World} {mb n c : Nat} {f : Int → Option Nat} (h : PMap w mb n f) (hs : Only c w w') (hne : mb ≠ c) : PMap w' mb n f := h.step hs hne
theorem PMap.congr {w : World} {mb n : Nat} {f g : Int → Option Nat} (h : PMap w mb n f) (hfg : ∀ k, (Lit.int .i64 k).wf = true → f k = g k) : PMap w mb n g := by
  obtain ⟨D, h1, h2⟩ := h
  exact ⟨D, h1, fun k hk => by rw [← hfg k hk]; exact h2 k hk⟩

section
variable {w : World} {mb n : Nat} {f : Int → Option Nat} {t e : TypeId}
theorem PMap.look (h : PMap w mb n f) (ht : Tryd.prog.underlying t = some (.map 3 e)) (hz : (zeroValue e).run Tryd.prog w = .ok (.pointer none) w) {k : Int} (hk : (Lit.int .i64 k).wf = true) :
    (Instr.lookup t (.map (some mb)) (.int .i64 k) false).run Tryd.prog w = .ok (ptrOf (f k)) w := by
  obtain ⟨D, h1, h2⟩ := h
  obtain ⟨v, ps, hrun, hv⟩ := h1.lookup int_law ht hz (zd := .lit .nil) (zp := []) rfl (int_key hk)
  rw [(h2 k hk).2] at hv
  rw [hrun, ptrElem_inv hv]
theorem PMap.look_ok (h : PMap w mb n f) (ht : Tryd.prog.underlying t = some (.map 3 e)) (hz : (zeroValue e).run Tryd.prog w = .ok (.pointer none) w) {k : Int} (hk : (Lit.int .i64 k).wf = true) :
    (Instr.lookup t (.map (some mb)) (.int .i64 k) true).run Tryd.prog w = .ok (.tuple #[ptrOf (f k), .bool (f k).isSome]) w := by
  obtain ⟨D, h1, h2⟩ := h
  obtain ⟨v, ps, hrun, hv⟩ := h1.look_ok int_law ht hz (zd := .lit .nil) (zp := []) rfl (int_key hk)
  rw [(h2 k hk).2] at hv
  rw [hrun, ptrElem_inv hv, (h2 k hk).1]
theorem isKey_int (k : Int) : WideAt.IsKeyLit (.int .i64 k) := by unfold WideAt.IsKeyLit; trivial
theorem PMap.update (h : PMap w mb n f) (ht : Tryd.prog.underlying t = some (.map 3 e)) (hn : n < maxLen) {k : Int} (hk : (Lit.int .i64 k).wf = true) (b : Nat) :
    ∃ w', (Instr.mapUpdate t (.map (some mb)) (.int .i64 k) (.pointer (some ⟨b, 0, none⟩))).run Tryd.prog w = .ok () w' ∧ PMap w' mb (n + 1) (fun x => if x = k then some b else f x) ∧ Only mb w w' := by
  obtain ⟨D, h1, h2⟩ := h
  obtain ⟨w', hrun, h3, h4⟩ := h1.update int_law ht hn (int_key hk) (val := .pointer (some ⟨b, 0, none⟩)) (d := ptrD (some b)) (ps := []) rfl
  refine ⟨w', hrun, ⟨_, h3, fun x hx => ?_⟩, ⟨h4.os, h4.tape, h4.output, h4.size, fun i hi hne => h4.block i hi (by simpa using hne)⟩⟩
  by_cases e : x = k
  · subst e
    dsimp only
    rw [if_pos rfl]
    exact ⟨Maps.has_put_same h1.isMap (isKey_int x) _, Maps.atKey_put_same h1.isMap (isKey_int x) _ _⟩
  · dsimp only
    rw [if_neg e]
    have hne : Lit.int .i64 x ≠ Lit.int .i64 k := fun h => e (by simpa using h)
    exact ⟨(Maps.has_put_other hne _).trans (h2 x hx).1, (Maps.atKey_put_other hne _ _).trans (h2 x hx).2⟩
theorem PMap.drop (h : PMap w mb n f) (ht : Tryd.prog.underlying t = some (.map 3 e)) {k : Int} (hk : (Lit.int .i64 k).wf = true) (ty : TypeId) :
    ∃ w', (Builtin.delete_ #[t, 3] ty #[.map (some mb), .int .i64 k]).run Tryd.prog w = .ok (.tuple #[]) w' ∧ PMap w' mb n (fun x => if x = k then none else f x) ∧ Only mb w w' := by
  obtain ⟨D, h1, h2⟩ := h
  obtain ⟨w', hrun, h3, h4⟩ := h1.drop int_law ht (int_key hk) ty
  have h4 := h4.grown
  refine ⟨w', hrun, ⟨_, h3, fun x hx => ?_⟩, ⟨h4.os, h4.tape, h4.output, h4.size, fun i hi hne => h4.block i hi (by simpa using hne)⟩⟩
  by_cases e : x = k
  · subst e
    dsimp only
    rw [if_pos rfl]
    exact ⟨Maps.has_del_same, Maps.atKey_del_same _⟩
  · dsimp only
    rw [if_neg e]
    have hne : Lit.int .i64 x ≠ Lit.int .i64 k := fun h => e (by simpa using h)
    exact ⟨(Maps.has_del_other hne).trans (h2 x hx).1, (Maps.atKey_del_other hne _).trans (h2 x hx).2⟩
end

section
variable {w : World} {mb n : Nat} {f : Int → Option Nat} {t e : TypeId} {ops : Array Oper} {rest : List Oper} {o : Oper} {a : Act} {Q : Exit → Act → World → Prop}
theorem wpList_pmap_update (hg : o.guard = none) (m x v : Operand) (hop : o.op = Op.mapUpdate t m x v) (ht : Tryd.prog.underlying t = some (.map 3 e)) (h : PMap w mb n f) (hn : n < maxLen) {k : Int} {b : Nat}
    (hm : a.eval m = .map (some mb)) (hx : a.eval x = .int .i64 k) (hv : a.eval v = .pointer (some ⟨b, 0, none⟩)) (hk : (Lit.int .i64 k).wf = true)
    (hK : ∀ w', PMap w' mb (n + 1) (fun x => if x = k then some b else f x) → Only mb w w' → wpList Tryd.prog ops Q rest (a.put o.dst undef) w') : wpList Tryd.prog ops Q (o :: rest) a w := by
  refine wpList_plain hg fun K' hK' => ?_
  obtain ⟨w', hrun, r1, r2⟩ := h.update ht hn hk b
  unfold Oper.wp
  simp [execOp, hop, hm, hx, hv, hrun, Result.andThen]
  exact hK' _ _ (hK w' r1 r2)
theorem wpList_pmap_drop (hg : o.guard = none) (m x : Operand) (hop : o.op = Op.call { callee := Callee.builtin Builtin.delete, args := #[m, x], argTypes := #[t, 3] }) (ht : Tryd.prog.underlying t = some (.map 3 e)) (h : PMap w mb n f) {k : Int}
    (hm : a.eval m = .map (some mb)) (hx : a.eval x = .int .i64 k) (hk : (Lit.int .i64 k).wf = true)
    (hK : ∀ w', PMap w' mb n (fun x => if x = k then none else f x) → Only mb w w' → wpList Tryd.prog ops Q rest (a.put o.dst (.tuple #[])) w') : wpList Tryd.prog ops Q (o :: rest) a w := by
  refine wpList_plain hg fun K' hK' => ?_
  obtain ⟨w', hrun, r1, r2⟩ := h.drop ht hk o.type
  unfold Oper.wp
  simp [execOp, hop, resolve, invoke, builtin, hm, hx, hrun, Result.andThen]
  exact hK' _ _ (hK w' r1 r2)
end
end Go.Proofs.YtniflggmfegnfaaDoor

/- A judge's reading in memory: its box, its rows, its map, the places; what a step leaves of it. No condition. -/
namespace Go.Proofs.YtniflggmfegnfaaDoor
open Go.RowKit

abbrev readObj (vl : Value) (mb : Nat) (vf : Value) : Obj := .cells #[vl, .map (some mb), vf] 62
abbrev placeObj (p : Plc) : Obj := .cells #[.int .i64 (p.pos : Int), .int .i64 p.far, .string (bs p.params)] 112
def sntF (q : Snt × Value) : List Value := [.int .i64 q.1.id, q.2, .string (bs q.1.body), .bool q.1.whole, .bool q.1.cut]
theorem sntF_len (q : Snt × Value) : (sntF q).length = 5 := rfl
def sntCells (l : List (Snt × Value)) : List Value := l.flatMap sntF
def intCells (l : List Int) : List Value := l.map (Value.int .i64)

/-- The rows and the map of a reading whose box has given values. -/
structure RdHeap (B : Nat) (w : World) (r : JS) (vl : Value) (mb : Nat) (vf : Value) (rows : List (Snt × Value)) (f : Int → Option Nat) : Prop where
  l : r.l = rows.map (·.1)
  row : w.ownsRow B 40 5 vl rows.length (sntCells rows)
  frm : w.ownsRow B 3 1 vf r.frm.length (intCells r.frm)
  pairs : ∀ q ∈ rows, w.ownsRow B 29 2 q.2 q.1.pairs.length (q.1.pairs.flatMap pairCells)
  map : PMap w mb r.l.length f
  low : B ≤ mb
  place : ∀ i p, (Lit.int .i64 i).wf = true → r.ids i = some p → ∃ b, f i = some b ∧ B ≤ b ∧ w.heap[b]? = some (placeObj p)
  lack : ∀ i, (Lit.int .i64 i).wf = true → r.ids i = Option.none → f i = Option.none
  apart : ∀ i j b, (Lit.int .i64 i).wf = true → (Lit.int .i64 j).wf = true → f i = some b → f j = some b → i = j
/-- Box rb is a reading. -/
def RdAt (B : Nat) (w : World) (rb : Nat) (r : JS) : Prop := B ≤ rb ∧ ∃ vl mb vf rows f, w.heap[rb]? = some (readObj vl mb vf) ∧ RdHeap B w r vl mb vf rows f

theorem RdHeap.keeps {B : Nat} {w w' : World} {r : JS} {vl : Value} {mb : Nat} {vf : Value} {rows : List (Snt × Value)} {f : Int → Option Nat} (h : RdHeap B w r vl mb vf rows f) (hb : Below w.heap.size w w') : RdHeap B w' r vl mb vf rows f where
  l := h.l
  row := own_kept h.row hb
  frm := own_kept h.frm hb
  pairs := fun q hq => own_kept (h.pairs q hq) hb
  map := h.map.kept hb
  low := h.low
  place := fun i p hi hp => by
    obtain ⟨b, h1, h2, h3⟩ := h.place i p hi hp
    exact ⟨b, h1, h2, kept h3 hb⟩
  lack := h.lack
  apart := h.apart
theorem RdAt.keeps {B : Nat} {w w' : World} {rb : Nat} {r : JS} (h : RdAt B w rb r) (hb : Below w.heap.size w w') : RdAt B w' rb r := by
  obtain ⟨h0, vl, mb, vf, rows, f, h1, h2⟩ := h
  exact ⟨h0, vl, mb, vf, rows, f, kept h1 hb, h2.keeps hb⟩

theorem cells_ne {w : World} {a b : Nat} {c d : Array Value} {s t : TypeId} {x y : Nat × Nat} (ha : w.heap[a]? = some (.cells c s x)) (hb : w.heap[b]? = some (.cells d t y)) (h : s ≠ t) : a ≠ b := by
  rintro rfl
  rw [ha] at hb
  simp at hb
  exact h hb.2.1
theorem cells_map_ne {w : World} {a b : Nat} {c : Array Value} {s : TypeId} {x : Nat × Nat} {es : Array MapEntry} {n : Nat} (ha : w.heap[a]? = some (.cells c s x)) (hb : w.heap[b]? = some (.map es n)) : a ≠ b := by
  rintro rfl
  rw [ha] at hb
  cases hb
theorem PMap.obj {w : World} {mb n : Nat} {f : Int → Option Nat} (h : PMap w mb n f) : ∃ es clock, w.heap[mb]? = some (.map es clock) := by
  obtain ⟨D, ⟨es, clock, hb, _⟩, _⟩ := h
  exact ⟨es, clock, hb⟩
theorem own_obj {B : Nat} {w : World} {e : TypeId} {size n : Nat} {v : Value} {xs : List Value} (h : w.ownsRow B e size v n xs) {g : Nat} (hg : v.ownBlock = some g) : ∃ cur, w.heap[g]? = some (.cells cur e (0, 0)) := by
  rcases h.2 with ⟨rfl, _⟩ | ⟨g', cap, cur, rfl, _, hh, _⟩
  · cases hg
  · simp [Value.ownBlock] at hg
    subst hg
    exact ⟨cur, hh⟩
/-- A row stays what it is while a block of another type is written, or a map. -/
theorem own_set {B b j : Nat} {w : World} {e t : TypeId} {size n : Nat} {v u : Value} {xs : List Value} {c : Array Value} {y : Nat × Nat} (h : w.ownsRow B e size v n xs) (hb : w.heap[b]? = some (.cells c t y)) (hne : e ≠ t) : (w.setCell ⟨b, j, none⟩ u).ownsRow B e size v n xs := by
  refine Rg.ownsRow_step h (Rg.step_set w b j u) (fun k hk => ?_)
  obtain ⟨cur, hc⟩ := own_obj h hk
  exact cells_ne hc hb hne
theorem own_map {B mb : Nat} {w w' : World} {e : TypeId} {size n : Nat} {v : Value} {xs : List Value} {es : Array MapEntry} {cl : Nat} (h : w.ownsRow B e size v n xs) (hb : w.heap[mb]? = some (.map es cl)) (hs : Only mb w w') : w'.ownsRow B e size v n xs := by
  refine Rg.ownsRow_step h hs (fun k hk => ?_)
  obtain ⟨cur, hc⟩ := own_obj h hk
  exact cells_map_ne hc hb

theorem flat_set {α : Type} {size : Nat} (F : α → List Value) (hl : ∀ r, (F r).length = size) : ∀ (rs : List α) (i j : Nat) (x y : α) (u : Value), rs[i]? = some x → j < size → F y = (F x).set j u → (rs.flatMap F).set (i * size + j) u = (rs.set i y).flatMap F
  | [], i, j, x, y, u, h, _, _ => by simp at h
  | r :: rs, 0, j, x, y, u, h, hj, hy => by
    simp at h
    subst h
    rw [Nat.zero_mul, Nat.zero_add, List.flatMap_cons, List.set_append_left _ _ (by rw [hl]; exact hj), List.set_cons_zero, List.flatMap_cons, hy]
  | r :: rs, i + 1, j, x, y, u, h, hj, hy => by
    have e : (i + 1) * size + j = (F r).length + (i * size + j) := by rw [hl, Nat.add_mul]; omega
    rw [List.flatMap_cons, e, List.set_append_right _ _ (by omega), Nat.add_sub_cancel_left, List.set_cons_succ, List.flatMap_cons, flat_set F hl rs i j x y u (by simpa using h) hj hy]

section
variable {B : Nat} {w : World} {r : JS} {vl : Value} {mb : Nat} {vf : Value} {rows : List (Snt × Value)} {f : Int → Option Nat}
theorem RdHeap.obj (h : RdHeap B w r vl mb vf rows f) {k : Nat} {q : Snt × Value} (hk : rows[k]? = some q) : ∃ g cap cur, vl = .slice (some ⟨g, 0, none⟩) rows.length cap ∧ B ≤ g ∧ g < w.heap.size ∧ w.heap[g]? = some (.cells cur 40 (0, 0)) ∧
    w.cell? ⟨g, k * 5, none⟩ = some (.int .i64 q.1.id) ∧ w.cell? ⟨g, k * 5 + 1, none⟩ = some q.2 ∧ w.cell? ⟨g, k * 5 + 2, none⟩ = some (.string (bs q.1.body)) ∧ w.cell? ⟨g, k * 5 + 3, none⟩ = some (.bool q.1.whole) ∧ w.cell? ⟨g, k * 5 + 4, none⟩ = some (.bool q.1.cut) := by
  have hn : 0 < rows.length := by have := (List.getElem?_eq_some_iff.1 hk).1; omega
  obtain ⟨g, cap, rfl, h1, h2, hc⟩ := own_open h.row hn
  obtain ⟨cur, ho⟩ := own_obj h.row (g := g) rfl
  have e := fun j (hj : j < 5) => flat_at sntF rows (fun _ _ => rfl) k j q hk hj
  exact ⟨g, cap, cur, rfl, h1, h2, ho, hc _ _ (e 0 (by omega)), hc _ _ (e 1 (by omega)), hc _ _ (e 2 (by omega)), hc _ _ (e 3 (by omega)), hc _ _ (e 4 (by omega))⟩
/-- A cell of a request is written. -/
theorem RdHeap.setSnt (h : RdHeap B w r vl mb vf rows f) {g cap k j : Nat} {q q' : Snt × Value} {u : Value} (hv : vl = .slice (some ⟨g, 0, none⟩) rows.length cap) (hk : rows[k]? = some q) (hj : j < 5) (hq : sntF q' = (sntF q).set j u)
    (hp : w.ownsRow B 29 2 q'.2 q'.1.pairs.length (q'.1.pairs.flatMap pairCells)) :
    RdHeap B (w.setCell ⟨g, k * 5 + j, none⟩ u) ⟨r.l.set k q'.1, r.frm, r.ids⟩ vl mb vf (rows.set k q') f := by
  have hrow := h.row
  rw [hv] at hrow
  obtain ⟨cur, ho⟩ := own_obj hrow (g := g) rfl
  obtain ⟨es, cl, hm⟩ := h.map.obj
  have hne : g ≠ mb := cells_map_ne ho hm
  obtain ⟨r1, _⟩ := hrow.stored (k * 5 + j) u
  have e : (sntCells rows).set (k * 5 + j) u = sntCells (rows.set k q') := flat_set sntF sntF_len rows k j q q' u hk hj hq
  rw [e] at r1
  refine ⟨by simp [h.l], by rw [hv]; simpa using r1, own_set h.frm ho (by decide), ?_, ?_, h.low, ?_, h.lack, h.apart⟩
  · intro x hx
    rcases List.mem_or_eq_of_mem_set hx with hx | rfl
    · exact own_set (h.pairs x hx) ho (by decide)
    · exact own_set hp ho (by decide)
  · simp only [List.length_set]
    exact h.map.only (only_set w _ u) (fun e => hne e.symm)
  · intro i p hi hp
    obtain ⟨b, h1, h2, h3⟩ := h.place i p hi hp
    exact ⟨b, h1, h2, set_other h3 (cells_ne h3 ho (by decide)) u⟩
/-- A cell of a place is written. -/
theorem RdHeap.setPlc (h : RdHeap B w r vl mb vf rows f) {i : Int} {p p' : Plc} {b j : Nat} {u : Value} (hi : (Lit.int .i64 i).wf = true) (hp : r.ids i = some p) (hf : f i = some b) (hq : #[.int .i64 (p'.pos : Int), .int .i64 p'.far, .string (bs p'.params)] = (#[.int .i64 (p.pos : Int), .int .i64 p.far, .string (bs p.params)] : Array Value).setIfInBounds j u) :
    RdHeap B (w.setCell ⟨b, j, none⟩ u) ⟨r.l, r.frm, fun k => if k = i then some p' else r.ids k⟩ vl mb vf rows f := by
  obtain ⟨b', h1, h2, h3⟩ := h.place i p hi hp
  rw [hf] at h1
  cases h1
  obtain ⟨es, cl, hm⟩ := h.map.obj
  have hne : b ≠ mb := cells_map_ne h3 hm
  refine ⟨h.l, own_set h.row h3 (by decide), own_set h.frm h3 (by decide), fun x hx => own_set (h.pairs x hx) h3 (by decide), h.map.only (only_set w _ u) (fun e => hne e.symm), h.low, ?_, ?_, h.apart⟩
  · intro i2 p2 hi2 hp2
    simp only at hp2
    split at hp2
    next e =>
      cases hp2
      subst e
      refine ⟨b, hf, h2, ?_⟩
      rw [set_box h3 u, ← hq]
    next e =>
      obtain ⟨b2, a1, a2, a3⟩ := h.place i2 p2 hi2 hp2
      refine ⟨b2, a1, a2, set_other a3 ?_ u⟩
      rintro rfl
      exact e (h.apart i2 i b2 hi2 hi a1 hf)
  · intro i2 hi2 hp2
    simp only at hp2
    split at hp2
    · cases hp2
    · exact h.lack i2 hi2 hp2
end
theorem JS.ids_self (r : JS) (i : Int) (p : Plc) (h : r.ids i = some p) : (⟨r.l, r.frm, fun k => if k = i then some p else r.ids k⟩ : JS) = r := by
  obtain ⟨l, fr, ids⟩ := r
  simp only [JS.mk.injEq, true_and]
  funext k
  split
  next e => rw [e]; exact h.symm
  next e => rfl
end Go.Proofs.YtniflggmfegnfaaDoor

/- What a judge makes of a record of a request that was begun: arm by arm. Conditions: the reading in memory; the package errors' variable. -/
namespace Go.Proofs.YtniflggmfegnfaaDoor
open Go.RowKit

set_option maxRecDepth 100000 in
set_option maxHeartbeats 4000000 in
theorem jgoes_cut (rb g pb k n cap mb : Nat) (vf pv0 : Value) (x : Rec) (pf : Int) (pp body : Bs) (whole : Bool) (w : World) (cur : Array Value) (hb : w.heap[rb]? = some (readObj (.slice (some ⟨g, 0, none⟩) n cap) mb vf)) (hp : w.heap[pb]? = some (placeObj ⟨k, pf, pp⟩)) (ho : w.heap[g]? = some (.cells cur 40 (0, 0)))
    (hk : k < n) (hn : n ≤ 1000000000) (hlp : pp.length + x.c.length ≤ 2000000000) (hlb : body.length + x.c.length ≤ 2000000000) (s1 : w.cell? ⟨g, k * 5 + 1, none⟩ = some pv0) (s2 : w.cell? ⟨g, k * 5 + 2, none⟩ = some (.string (bs body))) (s3 : w.cell? ⟨g, k * 5 + 3, none⟩ = some (.bool whole)) (s4 : w.cell? ⟨g, k * 5 + 4, none⟩ = some (.bool true)) :
    Calls Tryd.prog 30 #[.pointer (some ⟨rb, 0, none⟩), x.v, .pointer (some ⟨pb, 0, none⟩)] w fun e w' => e = .returned (eV 18) ∧ Below w.heap.size w w' := by
  obtain ⟨xt, xi, xc, xp⟩ := x
  try simp only at *
  have hlp2 : ¬ 9223372036854775807 < pp.length + xc.length := by omega
  have hlb2 : ¬ 9223372036854775807 < body.length + xc.length := by omega
  have c0 := box_cells hb 0
  have p0 := box_cells hp 0
  have p1 := box_cells hp 1
  have p2 := box_cells hp 2
  have fp1 := box_free hp 1
  have fp2 := box_free hp 2
  have fg := box_free ho
  have fg1 := fg (k * 5 + 1)
  have fg2 := fg (k * 5 + 2)
  have fg3 := fg (k * 5 + 3)
  have fg4 := fg (k * 5 + 4)
  clear fg
  have z1 := box_lt hb
  have z2 := box_lt hp
  have z3 := box_lt ho
  have hgp : g ≠ pb := cells_ne ho hp (by decide)
  have hpg : pb ≠ g := fun h => hgp h.symm
  have hk0 : 0 < n := by omega
  go_enter Tryd.func30, Tryd.ntmps30
  go_wp2_with fail
  go_quiet (fail)
  go_wp2_with fail
  go_ret
  exact ⟨rfl, below_drewN (below_alloc _ _) _⟩

set_option maxRecDepth 100000 in
set_option maxHeartbeats 4000000 in
theorem jgoes_o2 (rb g pb k n cap mb : Nat) (vf pv0 : Value) (x : Rec) (pf : Int) (pp body : Bs) (whole : Bool) (w : World) (cur : Array Value) (hb : w.heap[rb]? = some (readObj (.slice (some ⟨g, 0, none⟩) n cap) mb vf)) (hp : w.heap[pb]? = some (placeObj ⟨k, pf, pp⟩)) (ho : w.heap[g]? = some (.cells cur 40 (0, 0)))
    (hk : k < n) (hn : n ≤ 1000000000) (hlp : pp.length + x.c.length ≤ 2000000000) (hlb : body.length + x.c.length ≤ 2000000000) (s1 : w.cell? ⟨g, k * 5 + 1, none⟩ = some pv0) (s2 : w.cell? ⟨g, k * 5 + 2, none⟩ = some (.string (bs body))) (s3 : w.cell? ⟨g, k * 5 + 3, none⟩ = some (.bool whole)) (s4 : w.cell? ⟨g, k * 5 + 4, none⟩ = some (.bool false)) (ht : x.t = 2) (hc : x.c ≠ []) :
    Calls Tryd.prog 30 #[.pointer (some ⟨rb, 0, none⟩), x.v, .pointer (some ⟨pb, 0, none⟩)] w fun e w' => e = .returned (eV 18) ∧ Below w.heap.size w w' := by
  obtain ⟨xt, xi, xc, xp⟩ := x
  try simp only at *
  have hlp2 : ¬ 9223372036854775807 < pp.length + xc.length := by omega
  have hlb2 : ¬ 9223372036854775807 < body.length + xc.length := by omega
  subst ht
  have q1 : (xc == []) = false := by simpa using hc
  clear hc
  have c0 := box_cells hb 0
  have p0 := box_cells hp 0
  have p1 := box_cells hp 1
  have p2 := box_cells hp 2
  have fp1 := box_free hp 1
  have fp2 := box_free hp 2
  have fg := box_free ho
  have fg1 := fg (k * 5 + 1)
  have fg2 := fg (k * 5 + 2)
  have fg3 := fg (k * 5 + 3)
  have fg4 := fg (k * 5 + 4)
  clear fg
  have z1 := box_lt hb
  have z2 := box_lt hp
  have z3 := box_lt ho
  have hgp : g ≠ pb := cells_ne ho hp (by decide)
  have hpg : pb ≠ g := fun h => hgp h.symm
  have hk0 : 0 < n := by omega
  go_enter Tryd.func30, Tryd.ntmps30
  go_wp2_with fail
  go_quiet (fail)
  go_wp2_with fail
  go_ret
  exact ⟨rfl, below_drewN (below_alloc _ _) _⟩

set_option maxRecDepth 100000 in
set_option maxHeartbeats 4000000 in
theorem jgoes_o4 (rb g pb k n cap mb : Nat) (vf pv0 : Value) (x : Rec) (pf : Int) (pp body : Bs) (whole : Bool) (w : World) (cur : Array Value) (hb : w.heap[rb]? = some (readObj (.slice (some ⟨g, 0, none⟩) n cap) mb vf)) (hp : w.heap[pb]? = some (placeObj ⟨k, pf, pp⟩)) (ho : w.heap[g]? = some (.cells cur 40 (0, 0)))
    (hk : k < n) (hn : n ≤ 1000000000) (hlp : pp.length + x.c.length ≤ 2000000000) (hlb : body.length + x.c.length ≤ 2000000000) (s1 : w.cell? ⟨g, k * 5 + 1, none⟩ = some pv0) (s2 : w.cell? ⟨g, k * 5 + 2, none⟩ = some (.string (bs body))) (s3 : w.cell? ⟨g, k * 5 + 3, none⟩ = some (.bool whole)) (s4 : w.cell? ⟨g, k * 5 + 4, none⟩ = some (.bool false)) (ht : x.t = 4) (hf : pf ≠ 1) :
    Calls Tryd.prog 30 #[.pointer (some ⟨rb, 0, none⟩), x.v, .pointer (some ⟨pb, 0, none⟩)] w fun e w' => e = .returned (eV 18) ∧ Below w.heap.size w w' := by
  obtain ⟨xt, xi, xc, xp⟩ := x
  try simp only at *
  have hlp2 : ¬ 9223372036854775807 < pp.length + xc.length := by omega
  have hlb2 : ¬ 9223372036854775807 < body.length + xc.length := by omega
  subst ht
  have q1 : (pf == 1) = false := by simpa using hf
  clear hf
  have c0 := box_cells hb 0
  have p0 := box_cells hp 0
  have p1 := box_cells hp 1
  have p2 := box_cells hp 2
  have fp1 := box_free hp 1
  have fp2 := box_free hp 2
  have fg := box_free ho
  have fg1 := fg (k * 5 + 1)
  have fg2 := fg (k * 5 + 2)
  have fg3 := fg (k * 5 + 3)
  have fg4 := fg (k * 5 + 4)
  clear fg
  have z1 := box_lt hb
  have z2 := box_lt hp
  have z3 := box_lt ho
  have hgp : g ≠ pb := cells_ne ho hp (by decide)
  have hpg : pb ≠ g := fun h => hgp h.symm
  have hk0 : 0 < n := by omega
  go_enter Tryd.func30, Tryd.ntmps30
  go_wp2_with fail
  go_quiet (fail)
  go_wp2_with fail
  go_ret
  exact ⟨rfl, below_drewN (below_alloc _ _) _⟩

set_option maxRecDepth 100000 in
set_option maxHeartbeats 4000000 in
theorem jgoes_o5 (rb g pb k n cap mb : Nat) (vf pv0 : Value) (x : Rec) (pf : Int) (pp body : Bs) (whole : Bool) (w : World) (cur : Array Value) (hb : w.heap[rb]? = some (readObj (.slice (some ⟨g, 0, none⟩) n cap) mb vf)) (hp : w.heap[pb]? = some (placeObj ⟨k, pf, pp⟩)) (ho : w.heap[g]? = some (.cells cur 40 (0, 0)))
    (hk : k < n) (hn : n ≤ 1000000000) (hlp : pp.length + x.c.length ≤ 2000000000) (hlb : body.length + x.c.length ≤ 2000000000) (s1 : w.cell? ⟨g, k * 5 + 1, none⟩ = some pv0) (s2 : w.cell? ⟨g, k * 5 + 2, none⟩ = some (.string (bs body))) (s3 : w.cell? ⟨g, k * 5 + 3, none⟩ = some (.bool whole)) (s4 : w.cell? ⟨g, k * 5 + 4, none⟩ = some (.bool false)) (ht : x.t = 5) (hf : pf ≠ 2) :
    Calls Tryd.prog 30 #[.pointer (some ⟨rb, 0, none⟩), x.v, .pointer (some ⟨pb, 0, none⟩)] w fun e w' => e = .returned (eV 18) ∧ Below w.heap.size w w' := by
  obtain ⟨xt, xi, xc, xp⟩ := x
  try simp only at *
  have hlp2 : ¬ 9223372036854775807 < pp.length + xc.length := by omega
  have hlb2 : ¬ 9223372036854775807 < body.length + xc.length := by omega
  subst ht
  have q1 : (pf == 2) = false := by simpa using hf
  clear hf
  have c0 := box_cells hb 0
  have p0 := box_cells hp 0
  have p1 := box_cells hp 1
  have p2 := box_cells hp 2
  have fp1 := box_free hp 1
  have fp2 := box_free hp 2
  have fg := box_free ho
  have fg1 := fg (k * 5 + 1)
  have fg2 := fg (k * 5 + 2)
  have fg3 := fg (k * 5 + 3)
  have fg4 := fg (k * 5 + 4)
  clear fg
  have z1 := box_lt hb
  have z2 := box_lt hp
  have z3 := box_lt ho
  have hgp : g ≠ pb := cells_ne ho hp (by decide)
  have hpg : pb ≠ g := fun h => hgp h.symm
  have hk0 : 0 < n := by omega
  go_enter Tryd.func30, Tryd.ntmps30
  go_wp2_with fail
  go_quiet (fail)
  go_wp2_with fail
  go_ret
  exact ⟨rfl, below_drewN (below_alloc _ _) _⟩

set_option maxRecDepth 100000 in
set_option maxHeartbeats 4000000 in
theorem jgoes_ox (rb g pb k n cap mb : Nat) (vf pv0 : Value) (x : Rec) (pf : Int) (pp body : Bs) (whole : Bool) (w : World) (cur : Array Value) (hb : w.heap[rb]? = some (readObj (.slice (some ⟨g, 0, none⟩) n cap) mb vf)) (hp : w.heap[pb]? = some (placeObj ⟨k, pf, pp⟩)) (ho : w.heap[g]? = some (.cells cur 40 (0, 0)))
    (hk : k < n) (hn : n ≤ 1000000000) (hlp : pp.length + x.c.length ≤ 2000000000) (hlb : body.length + x.c.length ≤ 2000000000) (s1 : w.cell? ⟨g, k * 5 + 1, none⟩ = some pv0) (s2 : w.cell? ⟨g, k * 5 + 2, none⟩ = some (.string (bs body))) (s3 : w.cell? ⟨g, k * 5 + 3, none⟩ = some (.bool whole)) (s4 : w.cell? ⟨g, k * 5 + 4, none⟩ = some (.bool false)) (h2 : x.t ≠ 2) (h4 : x.t ≠ 4) (h5 : x.t ≠ 5) :
    Calls Tryd.prog 30 #[.pointer (some ⟨rb, 0, none⟩), x.v, .pointer (some ⟨pb, 0, none⟩)] w fun e w' => e = .returned (eV 18) ∧ Below w.heap.size w w' := by
  obtain ⟨xt, xi, xc, xp⟩ := x
  try simp only at *
  have hlp2 : ¬ 9223372036854775807 < pp.length + xc.length := by omega
  have hlb2 : ¬ 9223372036854775807 < body.length + xc.length := by omega
  have q1 : (xt == 2) = false := by simpa using h2
  have q2 : (xt == 4) = false := by simpa using h4
  have q3 : (xt == 5) = false := by simpa using h5
  clear h2 h4 h5
  have c0 := box_cells hb 0
  have p0 := box_cells hp 0
  have p1 := box_cells hp 1
  have p2 := box_cells hp 2
  have fp1 := box_free hp 1
  have fp2 := box_free hp 2
  have fg := box_free ho
  have fg1 := fg (k * 5 + 1)
  have fg2 := fg (k * 5 + 2)
  have fg3 := fg (k * 5 + 3)
  have fg4 := fg (k * 5 + 4)
  clear fg
  have z1 := box_lt hb
  have z2 := box_lt hp
  have z3 := box_lt ho
  have hgp : g ≠ pb := cells_ne ho hp (by decide)
  have hpg : pb ≠ g := fun h => hgp h.symm
  have hk0 : 0 < n := by omega
  go_enter Tryd.func30, Tryd.ntmps30
  go_wp2_with fail
  go_quiet (fail)
  go_wp2_with fail
  go_ret
  exact ⟨rfl, below_drewN (below_alloc _ _) _⟩

set_option maxRecDepth 100000 in
set_option maxHeartbeats 4000000 in
theorem jgoes_a2 (rb g pb k n cap mb : Nat) (vf pv0 : Value) (x : Rec) (pf : Int) (pp body : Bs) (whole : Bool) (w : World) (cur : Array Value) (hb : w.heap[rb]? = some (readObj (.slice (some ⟨g, 0, none⟩) n cap) mb vf)) (hp : w.heap[pb]? = some (placeObj ⟨k, pf, pp⟩)) (ho : w.heap[g]? = some (.cells cur 40 (0, 0)))
    (hk : k < n) (hn : n ≤ 1000000000) (hlp : pp.length + x.c.length ≤ 2000000000) (hlb : body.length + x.c.length ≤ 2000000000) (s1 : w.cell? ⟨g, k * 5 + 1, none⟩ = some pv0) (s2 : w.cell? ⟨g, k * 5 + 2, none⟩ = some (.string (bs body))) (s3 : w.cell? ⟨g, k * 5 + 3, none⟩ = some (.bool whole)) (s4 : w.cell? ⟨g, k * 5 + 4, none⟩ = some (.bool false)) (ht : x.t = 2) (hc : x.c = []) :
    Calls Tryd.prog 30 #[.pointer (some ⟨rb, 0, none⟩), x.v, .pointer (some ⟨pb, 0, none⟩)] w fun e w' => e = .returned .nilIface ∧ ∃ w1, Below w.heap.size w w1 ∧ w' = w1.setCell ⟨g, k * 5 + 4, none⟩ (.bool true) := by
  obtain ⟨xt, xi, xc, xp⟩ := x
  try simp only at *
  have hlp2 : ¬ 9223372036854775807 < pp.length + xc.length := by omega
  have hlb2 : ¬ 9223372036854775807 < body.length + xc.length := by omega
  subst ht
  subst hc
  have c0 := box_cells hb 0
  have p0 := box_cells hp 0
  have p1 := box_cells hp 1
  have p2 := box_cells hp 2
  have fp1 := box_free hp 1
  have fp2 := box_free hp 2
  have fg := box_free ho
  have fg1 := fg (k * 5 + 1)
  have fg2 := fg (k * 5 + 2)
  have fg3 := fg (k * 5 + 3)
  have fg4 := fg (k * 5 + 4)
  clear fg
  have z1 := box_lt hb
  have z2 := box_lt hp
  have z3 := box_lt ho
  have hgp : g ≠ pb := cells_ne ho hp (by decide)
  have hpg : pb ≠ g := fun h => hgp h.symm
  have hk0 : 0 < n := by omega
  go_enter Tryd.func30, Tryd.ntmps30
  go_wp2_with fail
  go_quiet (fail)
  go_wp2_with fail
  go_ret
  exact ⟨rfl, _, below_drewN (below_alloc _ _) _, rfl⟩

set_option maxRecDepth 100000 in
set_option maxHeartbeats 4000000 in
theorem jgoes_a3 (rb g pb k n cap mb : Nat) (vf pv0 : Value) (x : Rec) (pf : Int) (pp body : Bs) (whole : Bool) (w : World) (cur : Array Value) (hb : w.heap[rb]? = some (readObj (.slice (some ⟨g, 0, none⟩) n cap) mb vf)) (hp : w.heap[pb]? = some (placeObj ⟨k, pf, pp⟩)) (ho : w.heap[g]? = some (.cells cur 40 (0, 0)))
    (hk : k < n) (hn : n ≤ 1000000000) (hlp : pp.length + x.c.length ≤ 2000000000) (hlb : body.length + x.c.length ≤ 2000000000) (s1 : w.cell? ⟨g, k * 5 + 1, none⟩ = some pv0) (s2 : w.cell? ⟨g, k * 5 + 2, none⟩ = some (.string (bs body))) (s3 : w.cell? ⟨g, k * 5 + 3, none⟩ = some (.bool whole)) (s4 : w.cell? ⟨g, k * 5 + 4, none⟩ = some (.bool false)) (ht : x.t = 4) (hf : pf = 1) (hc : x.c ≠ []) :
    Calls Tryd.prog 30 #[.pointer (some ⟨rb, 0, none⟩), x.v, .pointer (some ⟨pb, 0, none⟩)] w fun e w' => e = .returned .nilIface ∧ ∃ w1, Below w.heap.size w w1 ∧ w' = w1.setCell ⟨pb, 2, none⟩ (.string (bs (pp ++ x.c))) := by
  obtain ⟨xt, xi, xc, xp⟩ := x
  try simp only at *
  have hlp2 : ¬ 9223372036854775807 < pp.length + xc.length := by omega
  have hlb2 : ¬ 9223372036854775807 < body.length + xc.length := by omega
  subst ht
  subst hf
  have q1 : (xc == []) = false := by simpa using hc
  have q2 : (xc != []) = true := by simpa using hc
  clear hc
  have c0 := box_cells hb 0
  have p0 := box_cells hp 0
  have p1 := box_cells hp 1
  have p2 := box_cells hp 2
  have fp1 := box_free hp 1
  have fp2 := box_free hp 2
  have fg := box_free ho
  have fg1 := fg (k * 5 + 1)
  have fg2 := fg (k * 5 + 2)
  have fg3 := fg (k * 5 + 3)
  have fg4 := fg (k * 5 + 4)
  clear fg
  have z1 := box_lt hb
  have z2 := box_lt hp
  have z3 := box_lt ho
  have hgp : g ≠ pb := cells_ne ho hp (by decide)
  have hpg : pb ≠ g := fun h => hgp h.symm
  have hk0 : 0 < n := by omega
  go_enter Tryd.func30, Tryd.ntmps30
  go_wp2_with fail
  go_quiet (fail)
  go_wp2_with fail
  go_region
  go_wp2_with fail
  go_ret
  exact ⟨rfl, _, below_drewN (below_alloc _ _) _, rfl⟩

set_option maxRecDepth 100000 in
set_option maxHeartbeats 4000000 in
theorem jgoes_a5 (rb g pb k n cap mb : Nat) (vf pv0 : Value) (x : Rec) (pf : Int) (pp body : Bs) (whole : Bool) (w : World) (cur : Array Value) (hb : w.heap[rb]? = some (readObj (.slice (some ⟨g, 0, none⟩) n cap) mb vf)) (hp : w.heap[pb]? = some (placeObj ⟨k, pf, pp⟩)) (ho : w.heap[g]? = some (.cells cur 40 (0, 0)))
    (hk : k < n) (hn : n ≤ 1000000000) (hlp : pp.length + x.c.length ≤ 2000000000) (hlb : body.length + x.c.length ≤ 2000000000) (s1 : w.cell? ⟨g, k * 5 + 1, none⟩ = some pv0) (s2 : w.cell? ⟨g, k * 5 + 2, none⟩ = some (.string (bs body))) (s3 : w.cell? ⟨g, k * 5 + 3, none⟩ = some (.bool whole)) (s4 : w.cell? ⟨g, k * 5 + 4, none⟩ = some (.bool false)) (ht : x.t = 5) (hf : pf = 2) (hc : x.c ≠ []) :
    Calls Tryd.prog 30 #[.pointer (some ⟨rb, 0, none⟩), x.v, .pointer (some ⟨pb, 0, none⟩)] w fun e w' => e = .returned .nilIface ∧ ∃ w1, Below w.heap.size w w1 ∧ w' = w1.setCell ⟨g, k * 5 + 2, none⟩ (.string (bs (body ++ x.c))) := by
  obtain ⟨xt, xi, xc, xp⟩ := x
  try simp only at *
  have hlp2 : ¬ 9223372036854775807 < pp.length + xc.length := by omega
  have hlb2 : ¬ 9223372036854775807 < body.length + xc.length := by omega
  subst ht
  subst hf
  have q1 : (xc == []) = false := by simpa using hc
  clear hc
  have c0 := box_cells hb 0
  have p0 := box_cells hp 0
  have p1 := box_cells hp 1
  have p2 := box_cells hp 2
  have fp1 := box_free hp 1
  have fp2 := box_free hp 2
  have fg := box_free ho
  have fg1 := fg (k * 5 + 1)
  have fg2 := fg (k * 5 + 2)
  have fg3 := fg (k * 5 + 3)
  have fg4 := fg (k * 5 + 4)
  clear fg
  have z1 := box_lt hb
  have z2 := box_lt hp
  have z3 := box_lt ho
  have hgp : g ≠ pb := cells_ne ho hp (by decide)
  have hpg : pb ≠ g := fun h => hgp h.symm
  have hk0 : 0 < n := by omega
  go_enter Tryd.func30, Tryd.ntmps30
  go_wp2_with fail
  go_quiet (fail)
  go_wp2_with fail
  go_region
  go_wp2_with fail
  go_ret
  exact ⟨rfl, _, below_drewN (below_alloc _ _) _, rfl⟩

set_option maxRecDepth 100000 in
set_option maxHeartbeats 4000000 in
theorem jgoes_a6 (rb g pb k n cap mb : Nat) (vf pv0 : Value) (x : Rec) (pf : Int) (pp body : Bs) (whole : Bool) (w : World) (cur : Array Value) (hb : w.heap[rb]? = some (readObj (.slice (some ⟨g, 0, none⟩) n cap) mb vf)) (hp : w.heap[pb]? = some (placeObj ⟨k, pf, pp⟩)) (ho : w.heap[g]? = some (.cells cur 40 (0, 0)))
    (hk : k < n) (hn : n ≤ 1000000000) (hlp : pp.length + x.c.length ≤ 2000000000) (hlb : body.length + x.c.length ≤ 2000000000) (s1 : w.cell? ⟨g, k * 5 + 1, none⟩ = some pv0) (s2 : w.cell? ⟨g, k * 5 + 2, none⟩ = some (.string (bs body))) (s3 : w.cell? ⟨g, k * 5 + 3, none⟩ = some (.bool whole)) (s4 : w.cell? ⟨g, k * 5 + 4, none⟩ = some (.bool false)) (ht : x.t = 5) (hf : pf = 2) (hc : x.c = []) :
    Calls Tryd.prog 30 #[.pointer (some ⟨rb, 0, none⟩), x.v, .pointer (some ⟨pb, 0, none⟩)] w fun e w' => e = .returned .nilIface ∧ ∃ w1, Below w.heap.size w w1 ∧ w' = ((w1.setCell ⟨g, k * 5 + 2, none⟩ (.string (bs body))).setCell ⟨g, k * 5 + 3, none⟩ (.bool true)).setCell ⟨pb, 1, none⟩ (.int .i64 3) := by
  obtain ⟨xt, xi, xc, xp⟩ := x
  try simp only at *
  have hlp2 : ¬ 9223372036854775807 < pp.length + xc.length := by omega
  have hlb2 : ¬ 9223372036854775807 < body.length + xc.length := by omega
  subst ht
  subst hf
  subst hc
  have c0 := box_cells hb 0
  have p0 := box_cells hp 0
  have p1 := box_cells hp 1
  have p2 := box_cells hp 2
  have fp1 := box_free hp 1
  have fp2 := box_free hp 2
  have fg := box_free ho
  have fg1 := fg (k * 5 + 1)
  have fg2 := fg (k * 5 + 2)
  have fg3 := fg (k * 5 + 3)
  have fg4 := fg (k * 5 + 4)
  clear fg
  have z1 := box_lt hb
  have z2 := box_lt hp
  have z3 := box_lt ho
  have hgp : g ≠ pb := cells_ne ho hp (by decide)
  have hpg : pb ≠ g := fun h => hgp h.symm
  have hk0 : 0 < n := by omega
  go_enter Tryd.func30, Tryd.ntmps30
  go_wp2_with fail
  go_quiet (fail)
  go_wp2_with fail
  go_region
  go_wp2_with fail
  go_ret
  exact ⟨rfl, _, below_drewN (below_alloc _ _) _, rfl⟩

set_option maxRecDepth 100000 in
set_option maxHeartbeats 4000000 in
theorem jgoes_a4 (rb g pb k n cap mb : Nat) (vf pv0 : Value) (x : Rec) (pf : Int) (pp body : Bs) (whole : Bool) (w : World) (cur : Array Value) (hb : w.heap[rb]? = some (readObj (.slice (some ⟨g, 0, none⟩) n cap) mb vf)) (hp : w.heap[pb]? = some (placeObj ⟨k, pf, pp⟩)) (ho : w.heap[g]? = some (.cells cur 40 (0, 0)))
    (hk : k < n) (hn : n ≤ 1000000000) (hlp : pp.length + x.c.length ≤ 2000000000) (hlb : body.length + x.c.length ≤ 2000000000) (s1 : w.cell? ⟨g, k * 5 + 1, none⟩ = some pv0) (s2 : w.cell? ⟨g, k * 5 + 2, none⟩ = some (.string (bs body))) (s3 : w.cell? ⟨g, k * 5 + 3, none⟩ = some (.bool whole)) (s4 : w.cell? ⟨g, k * 5 + 4, none⟩ = some (.bool false)) (ht : x.t = 4) (hf : pf = 1) (hc : x.c = []) (hg : w.cell? ⟨0, 0, none⟩ = some errTypeV) (hC : (readP 0 pp).2 = 0) :
    Calls Tryd.prog 30 #[.pointer (some ⟨rb, 0, none⟩), x.v, .pointer (some ⟨pb, 0, none⟩)] w fun e w' => e = .returned .nilIface ∧ ∃ w1, Below w.heap.size w w1 ∧ ∃ v, w1.ownsRow w.heap.size 29 2 v (readP 0 pp).1.length ((readP 0 pp).1.flatMap pairCells) ∧ w' = (w1.setCell ⟨g, k * 5 + 1, none⟩ v).setCell ⟨pb, 1, none⟩ (.int .i64 2) := by
  obtain ⟨xt, xi, xc, xp⟩ := x
  try simp only at *
  have hlp2 : ¬ 9223372036854775807 < pp.length + xc.length := by omega
  have hlb2 : ¬ 9223372036854775807 < body.length + xc.length := by omega
  subst ht
  subst hf
  subst hc
  have hg0 : 0 < w.heap.size := World.block_lt_of_cell? w _ hg
  have hpr := fun w h => pread_any pp w h
  generalize readP 0 pp = R at *
  obtain ⟨L, C⟩ := R
  simp only at *
  have HPR := Lib.hid hpr
  clear hpr
  have c0 := box_cells hb 0
  have p0 := box_cells hp 0
  have p1 := box_cells hp 1
  have p2 := box_cells hp 2
  have fp1 := box_free hp 1
  have fp2 := box_free hp 2
  have fg := box_free ho
  have fg1 := fg (k * 5 + 1)
  have fg2 := fg (k * 5 + 2)
  have fg3 := fg (k * 5 + 3)
  have fg4 := fg (k * 5 + 4)
  clear fg
  have z1 := box_lt hb
  have z2 := box_lt hp
  have z3 := box_lt ho
  have hgp : g ≠ pb := cells_ne ho hp (by decide)
  have hpg : pb ≠ g := fun h => hgp h.symm
  have hk0 : 0 < n := by omega
  go_enter Tryd.func30, Tryd.ntmps30
  go_wp2_with fail
  go_quiet (fail)
  go_wp2_with fail
  refine (HPR.out _ (by rw [(below_drewN (below_alloc w _) _).cell hg0]; exact hg)).mono ?_
  rintro e w2 ⟨v, rfl, ho2, hb2⟩
  have W2 : Below w.heap.size w w2 := below_later (below_drewN (below_alloc w _) _) hb2
  have hb' := kept hb W2
  have hp' := kept hp W2
  have ho' := kept ho W2
  rw [← W2.cell z3] at s1 s2 s3 s4
  clear c0 p0 p1 p2 fp1 fp2 fg1 fg2 fg3 fg4 hg hb2
  have c0 := box_cells hb' 0
  have p0 := box_cells hp' 0
  have p1 := box_cells hp' 1
  have p2 := box_cells hp' 2
  have fp1 := box_free hp' 1
  have fg := box_free ho'
  have fg1 := fg (k * 5 + 1)
  clear fg
  have z1 := box_lt hb'
  have z2 := box_lt hp'
  have z3 := box_lt ho'
  subst hC
  simp only [errV_zero]
  obtain ⟨a4, cap4, rfl⟩ := own_slice ho2
  go_wp2_with fail
  go_ret
  exact ⟨rfl, w2, W2, _, own_low ho2 (below_drewN (below_alloc w _) _).size, rfl⟩

set_option maxRecDepth 100000 in
set_option maxHeartbeats 4000000 in
theorem jgoes_a4b (rb g pb k n cap mb : Nat) (vf pv0 : Value) (x : Rec) (pf : Int) (pp body : Bs) (whole : Bool) (w : World) (cur : Array Value) (hb : w.heap[rb]? = some (readObj (.slice (some ⟨g, 0, none⟩) n cap) mb vf)) (hp : w.heap[pb]? = some (placeObj ⟨k, pf, pp⟩)) (ho : w.heap[g]? = some (.cells cur 40 (0, 0)))
    (hk : k < n) (hn : n ≤ 1000000000) (hlp : pp.length + x.c.length ≤ 2000000000) (hlb : body.length + x.c.length ≤ 2000000000) (s1 : w.cell? ⟨g, k * 5 + 1, none⟩ = some pv0) (s2 : w.cell? ⟨g, k * 5 + 2, none⟩ = some (.string (bs body))) (s3 : w.cell? ⟨g, k * 5 + 3, none⟩ = some (.bool whole)) (s4 : w.cell? ⟨g, k * 5 + 4, none⟩ = some (.bool false)) (ht : x.t = 4) (hf : pf = 1) (hc : x.c = []) (hg : w.cell? ⟨0, 0, none⟩ = some errTypeV) (hC : (readP 0 pp).2 ≠ 0) :
    Calls Tryd.prog 30 #[.pointer (some ⟨rb, 0, none⟩), x.v, .pointer (some ⟨pb, 0, none⟩)] w fun e w' => e = .returned (eV (readP 0 pp).2) ∧ Below w.heap.size w w' := by
  obtain ⟨xt, xi, xc, xp⟩ := x
  try simp only at *
  have hlp2 : ¬ 9223372036854775807 < pp.length + xc.length := by omega
  have hlb2 : ¬ 9223372036854775807 < body.length + xc.length := by omega
  subst ht
  subst hf
  subst hc
  have hg0 : 0 < w.heap.size := World.block_lt_of_cell? w _ hg
  have hpr := fun w h => pread_any pp w h
  generalize readP 0 pp = R at *
  obtain ⟨L, C⟩ := R
  simp only at *
  have HPR := Lib.hid hpr
  clear hpr
  have c0 := box_cells hb 0
  have p0 := box_cells hp 0
  have p1 := box_cells hp 1
  have p2 := box_cells hp 2
  have fp1 := box_free hp 1
  have fp2 := box_free hp 2
  have fg := box_free ho
  have fg1 := fg (k * 5 + 1)
  have fg2 := fg (k * 5 + 2)
  have fg3 := fg (k * 5 + 3)
  have fg4 := fg (k * 5 + 4)
  clear fg
  have z1 := box_lt hb
  have z2 := box_lt hp
  have z3 := box_lt ho
  have hgp : g ≠ pb := cells_ne ho hp (by decide)
  have hpg : pb ≠ g := fun h => hgp h.symm
  have hk0 : 0 < n := by omega
  go_enter Tryd.func30, Tryd.ntmps30
  go_wp2_with fail
  go_quiet (fail)
  go_wp2_with fail
  refine (HPR.out _ (by rw [(below_drewN (below_alloc w _) _).cell hg0]; exact hg)).mono ?_
  rintro e w2 ⟨v, rfl, ho2, hb2⟩
  have W2 : Below w.heap.size w w2 := below_later (below_drewN (below_alloc w _) _) hb2
  have hb' := kept hb W2
  have hp' := kept hp W2
  have ho' := kept ho W2
  rw [← W2.cell z3] at s1 s2 s3 s4
  clear c0 p0 p1 p2 fp1 fp2 fg1 fg2 fg3 fg4 hg hb2
  have c0 := box_cells hb' 0
  have p0 := box_cells hp' 0
  have p1 := box_cells hp' 1
  have p2 := box_cells hp' 2
  have fp1 := box_free hp' 1
  have fg := box_free ho'
  have fg1 := fg (k * 5 + 1)
  clear fg
  have z1 := box_lt hb'
  have z2 := box_lt hp'
  have z3 := box_lt ho'
  rw [errV_num hC]
  go_wp2_with fail
  go_ret
  exact ⟨rfl, W2⟩
end Go.Proofs.YtniflggmfegnfaaDoor

/- What a judge makes of a record of a request that was begun: the arms together. Conditions: the reading in memory; the package errors' variable; short texts. -/
namespace Go.Proofs.YtniflggmfegnfaaDoor
open Go.RowKit

theorem below_low {B : Nat} {w w' : World} (h : Below w.heap.size w w') (hB : B ≤ w.heap.size) : Below B w w' := h.mono hB
theorem below_set {B b j : Nat} {w w1 : World} {u : Value} (h : Below B w w1) (hB : B ≤ b) (hs : B ≤ w.heap.size) : Below B w (w1.setCell ⟨b, j, none⟩ u) :=
  h.trans (only_base (only_set w1 j u) hB (Nat.le_trans hs h.size))

/-- The rows of records that were there stay. -/
def Keeps (w w' : World) : Prop := ∀ (g : Nat) (cur : Array Value) (fr : Nat × Nat), w.heap[g]? = some (.cells cur 33 fr) → w'.heap[g]? = some (.cells cur 33 fr)
theorem keeps_below {w w' : World} (h : Below w.heap.size w w') : Keeps w w' := fun _ _ _ hc => kept hc h
theorem Keeps.trans {a b c : World} (h : Keeps a b) (k : Keeps b c) : Keeps a c := fun g cur fr hc => k g cur fr (h g cur fr hc)
theorem keeps_set {w w1 : World} {b j : Nat} {u : Value} {c : Array Value} {t : TypeId} {y : Nat × Nat} (h : Keeps w w1) (hb : w1.heap[b]? = some (.cells c t y)) (ht : 33 ≠ t) : Keeps w (w1.setCell ⟨b, j, none⟩ u) :=
  fun g cur fr hc => set_other (h g cur fr hc) (cells_ne (h g cur fr hc) hb ht) u

theorem goes_same (r : JS) (x : Rec) (p : Plc) (s' : Snt) (hq : goS (r.l.getD p.pos default) p.far p.params x = (s', p.far, p.params, 0)) (hp : r.ids x.id = some p) : r.goes x p = (⟨r.l.set p.pos s', r.frm, r.ids⟩, 0) := by
  unfold JS.goes
  rw [hq, if_pos rfl]
  simp only
  have := JS.ids_self ⟨r.l.set p.pos s', r.frm, r.ids⟩ x.id p hp
  rw [Prod.mk.injEq]
  exact ⟨this, rfl⟩
theorem goes_plc (r : JS) (x : Rec) (p : Plc) (far : Int) (params : Bs) (hq : goS (r.l.getD p.pos default) p.far p.params x = (r.l.getD p.pos default, far, params, 0)) (hl : p.pos < r.l.length) : r.goes x p = (⟨r.l, r.frm, fun k => if k = x.id then some ⟨p.pos, far, params⟩ else r.ids k⟩, 0) := by
  unfold JS.goes
  rw [hq, if_pos rfl]
  simp only
  have : r.l.set p.pos (r.l.getD p.pos default) = r.l := by
    rw [List.getD_eq_getElem?_getD, List.getElem?_eq_getElem hl]
    simp
  rw [this]
theorem goes_both (r : JS) (x : Rec) (p : Plc) (s' : Snt) (far : Int) (params : Bs) (hq : goS (r.l.getD p.pos default) p.far p.params x = (s', far, params, 0)) : r.goes x p = (⟨r.l.set p.pos s', r.frm, fun k => if k = x.id then some ⟨p.pos, far, params⟩ else r.ids k⟩, 0) := by
  unfold JS.goes
  rw [hq, if_pos rfl]
theorem goes_bad (r : JS) (x : Rec) (p : Plc) (c : Int) (hq : (goS (r.l.getD p.pos default) p.far p.params x).2.2.2 = c) (hc : c ≠ 0) : r.goes x p = (r, c) := by
  unfold JS.goes
  rw [hq, if_neg hc]

set_option maxHeartbeats 1000000 in
theorem jgoes_any (B rb : Nat) (r : JS) (vl : Value) (mb : Nat) (vf : Value) (rows : List (Snt × Value)) (f : Int → Option Nat) (x : Rec) (p : Plc) (pb : Nat) (w : World) (hrb : B ≤ rb) (hb : w.heap[rb]? = some (readObj vl mb vf)) (h : RdHeap B w r vl mb vf rows f)
    (hi : (Lit.int .i64 x.id).wf = true) (hp : r.ids x.id = some p) (hf : f x.id = some pb) (hpos : p.pos < r.l.length) (hn : r.l.length ≤ 1000000000) (hlp : p.params.length + x.c.length ≤ 2000000000) (hlb : (r.l.getD p.pos default).body.length + x.c.length ≤ 2000000000)
    (hg : w.cell? ⟨0, 0, none⟩ = some errTypeV) :
    Calls Tryd.prog 30 #[.pointer (some ⟨rb, 0, none⟩), x.v, .pointer (some ⟨pb, 0, none⟩)] w fun e w' => e = .returned (errV (r.goes x p).2) ∧ RdAt B w' rb (r.goes x p).1 ∧ Below B w w' ∧ Keeps w w' := by
  have hlr : r.l.length = rows.length := by rw [h.l]; simp
  have hk : p.pos < rows.length := by omega
  obtain ⟨q, hq⟩ : ∃ q, rows[p.pos]? = some q := ⟨_, List.getElem?_eq_getElem hk⟩
  have hs : r.l.getD p.pos default = q.1 := by
    rw [h.l, List.getD_eq_getElem?_getD, List.getElem?_map, hq]
    rfl
  obtain ⟨g, cap, cur, hv, hgB, hgl, ho, s0, s1, s2, s3, s4⟩ := h.obj hq
  obtain ⟨pb', hf', hpB, hpo⟩ := h.place x.id p hi hp
  rw [hf] at hf'
  cases hf'
  have hBs : B ≤ w.heap.size := Nat.le_trans hrb (Nat.le_of_lt (box_lt hb))
  have hqm : q ∈ rows := List.mem_of_getElem? hq
  have hprs := h.pairs q hqm
  have hrg : rb ≠ g := cells_ne hb ho (by decide)
  have hrp : rb ≠ pb := cells_ne hb hpo (by decide)
  have hpg : pb ≠ g := cells_ne hpo ho (by decide)
  rw [hs] at hlb
  subst hv
  obtain ⟨⟨sid, spairs, sbody, swhole, scut⟩, pv⟩ := q
  simp only at *
  obtain ⟨k, pf, pp⟩ := p
  simp only at *
  have hbad : ∀ c, c ≠ 0 → (goS (r.l.getD k default) pf pp x).2.2.2 = c → ∀ (e : Ending) (w' : World), (e = .returned (eV c) ∧ Below w.heap.size w w') → e = .returned (errV (r.goes x ⟨k, pf, pp⟩).2) ∧ RdAt B w' rb (r.goes x ⟨k, pf, pp⟩).1 ∧ Below B w w' ∧ Keeps w w' := by
    rintro c hc hgo e w' ⟨rfl, hbw⟩
    rw [goes_bad r x ⟨k, pf, pp⟩ c hgo hc, errV_num hc]
    exact ⟨rfl, RdAt.keeps ⟨hrb, _, _, _, _, _, hb, h⟩ hbw, below_low hbw hBs, keeps_below hbw⟩
  rw [hs] at hbad
  cases scut with
  | true => exact (jgoes_cut rb g pb k rows.length cap mb vf pv x pf pp sbody swhole w cur hb hpo ho hk (by omega) hlp hlb s1 s2 s3 s4).mono (fun e w' => hbad 18 (by decide) (by simp [goS]) e w')
  | false =>
  by_cases h2 : x.t = 2
  · by_cases hc : x.c = []
    · refine (jgoes_a2 rb g pb k rows.length cap mb vf pv x pf pp sbody swhole w cur hb hpo ho hk (by omega) hlp hlb s1 s2 s3 s4 h2 hc).mono ?_
      rintro e w' ⟨rfl, w1, hbw, rfl⟩
      rw [goes_same r x ⟨k, pf, pp⟩ ⟨sid, spairs, sbody, swhole, true⟩ (by rw [hs]; simp [goS, h2, hc]) hp]
      have key := (h.keeps hbw).setSnt (q' := (⟨sid, spairs, sbody, swhole, true⟩, pv)) (j := 4) (u := .bool true) rfl hq (by omega) rfl (own_kept hprs hbw)
      exact ⟨rfl, ⟨hrb, _, _, _, _, _, set_other (kept hb hbw) hrg _, key⟩, below_set (below_low hbw hBs) hgB hBs, keeps_set (keeps_below hbw) (kept ho hbw) (by decide)⟩
    · exact (jgoes_o2 rb g pb k rows.length cap mb vf pv x pf pp sbody swhole w cur hb hpo ho hk (by omega) hlp hlb s1 s2 s3 s4 h2 hc).mono (fun e w' => hbad 18 (by decide) (by simp [goS, h2, hc]) e w')
  by_cases h4 : x.t = 4
  · by_cases hpf : pf = 1
    · by_cases hc : x.c = []
      · by_cases hC : (readP 0 pp).2 = 0
        · refine (jgoes_a4 rb g pb k rows.length cap mb vf pv x pf pp sbody swhole w cur hb hpo ho hk (by omega) hlp hlb s1 s2 s3 s4 h4 hpf hc hg hC).mono ?_
          rintro e w' ⟨rfl, w1, hbw, v, hov, rfl⟩
          rw [goes_both r x ⟨k, pf, pp⟩ ⟨sid, (readP 0 pp).1, sbody, swhole, false⟩ 2 pp (by rw [hs]; simp [goS, h4, hc, hpf, hC])]
          have a1 := (h.keeps hbw).setSnt (q' := (⟨sid, (readP 0 pp).1, sbody, swhole, false⟩, v)) (j := 1) (u := v) rfl hq (by omega) rfl (own_low hov hBs)
          have key := a1.setPlc (p := ⟨k, pf, pp⟩) (p' := ⟨k, 2, pp⟩) (j := 1) (u := .int .i64 2) hi hp hf rfl
          exact ⟨rfl, ⟨hrb, _, _, _, _, _, set_other (set_other (kept hb hbw) hrg _) hrp _, key⟩, below_set (below_set (below_low hbw hBs) hgB hBs) hpB hBs, keeps_set (keeps_set (keeps_below hbw) (kept ho hbw) (by decide)) (set_other (kept hpo hbw) hpg _) (by decide)⟩
        · exact (jgoes_a4b rb g pb k rows.length cap mb vf pv x pf pp sbody swhole w cur hb hpo ho hk (by omega) hlp hlb s1 s2 s3 s4 h4 hpf hc hg hC).mono (fun e w' => hbad _ hC (by simp [goS, h4, hc, hpf, hC]) e w')
      · refine (jgoes_a3 rb g pb k rows.length cap mb vf pv x pf pp sbody swhole w cur hb hpo ho hk (by omega) hlp hlb s1 s2 s3 s4 h4 hpf hc).mono ?_
        rintro e w' ⟨rfl, w1, hbw, rfl⟩
        rw [goes_plc r x ⟨k, pf, pp⟩ 1 (pp ++ x.c) (by rw [hs]; simp [goS, h4, hc, hpf]) hpos]
        subst hpf
        have key := (h.keeps hbw).setPlc (p := ⟨k, 1, pp⟩) (p' := ⟨k, 1, pp ++ x.c⟩) (j := 2) (u := .string (bs (pp ++ x.c))) hi hp hf rfl
        exact ⟨rfl, ⟨hrb, _, _, _, _, _, set_other (kept hb hbw) hrp _, key⟩, below_set (below_low hbw hBs) hpB hBs, keeps_set (keeps_below hbw) (kept hpo hbw) (by decide)⟩
    · exact (jgoes_o4 rb g pb k rows.length cap mb vf pv x pf pp sbody swhole w cur hb hpo ho hk (by omega) hlp hlb s1 s2 s3 s4 h4 hpf).mono (fun e w' => hbad 18 (by decide) (by simp [goS, h4, hpf]) e w')
  by_cases h5 : x.t = 5
  · by_cases hpf : pf = 2
    · by_cases hc : x.c = []
      · refine (jgoes_a6 rb g pb k rows.length cap mb vf pv x pf pp sbody swhole w cur hb hpo ho hk (by omega) hlp hlb s1 s2 s3 s4 h5 hpf hc).mono ?_
        rintro e w' ⟨rfl, w1, hbw, rfl⟩
        rw [goes_both r x ⟨k, pf, pp⟩ ⟨sid, spairs, sbody, true, false⟩ 3 pp (by rw [hs]; simp [goS, h5, hc, hpf])]
        have a1 := (h.keeps hbw).setSnt (q' := (⟨sid, spairs, sbody, swhole, false⟩, pv)) (j := 2) (u := .string (bs sbody)) rfl hq (by omega) rfl (own_kept hprs hbw)
        have e1 : (rows.set k (⟨sid, spairs, sbody, swhole, false⟩, pv)) = rows := by rw [← (List.getElem?_eq_some_iff.1 hq).2]; simp
        have e2 : r.l.set k ⟨sid, spairs, sbody, swhole, false⟩ = r.l := by
          rw [← hs, List.getD_eq_getElem?_getD, List.getElem?_eq_getElem hpos]; simp
        rw [e1, e2] at a1
        have ho1 : w.ownsRow B 29 2 pv spairs.length (spairs.flatMap pairCells) := hprs
        have ho2 := own_kept ho1 hbw
        have ho3 : (w1.setCell ⟨g, k * 5 + 2, none⟩ (.string (bs sbody))).ownsRow B 29 2 pv spairs.length (spairs.flatMap pairCells) := own_set ho2 (kept ho hbw) (by decide)
        have a2 := a1.setSnt (q' := (⟨sid, spairs, sbody, true, false⟩, pv)) (j := 3) (u := .bool true) rfl hq (by omega) rfl ho3
        have key := a2.setPlc (p := ⟨k, pf, pp⟩) (p' := ⟨k, 3, pp⟩) (j := 1) (u := .int .i64 3) hi hp hf rfl
        exact ⟨rfl, ⟨hrb, _, _, _, _, _, set_other (set_other (set_other (kept hb hbw) hrg _) hrg _) hrp _, key⟩, below_set (below_set (below_set (below_low hbw hBs) hgB hBs) hgB hBs) hpB hBs, keeps_set (keeps_set (keeps_set (keeps_below hbw) (kept ho hbw) (by decide)) (set_box (kept ho hbw) _) (by decide)) (set_other (set_other (kept hpo hbw) hpg _) hpg _) (by decide)⟩
      · refine (jgoes_a5 rb g pb k rows.length cap mb vf pv x pf pp sbody swhole w cur hb hpo ho hk (by omega) hlp hlb s1 s2 s3 s4 h5 hpf hc).mono ?_
        rintro e w' ⟨rfl, w1, hbw, rfl⟩
        rw [goes_same r x ⟨k, pf, pp⟩ ⟨sid, spairs, sbody ++ x.c, swhole, false⟩ (by rw [hs]; simp [goS, h5, hc, hpf]) hp]
        have key := (h.keeps hbw).setSnt (q' := (⟨sid, spairs, sbody ++ x.c, swhole, false⟩, pv)) (j := 2) (u := .string (bs (sbody ++ x.c))) rfl hq (by omega) rfl (own_kept hprs hbw)
        exact ⟨rfl, ⟨hrb, _, _, _, _, _, set_other (kept hb hbw) hrg _, key⟩, below_set (below_low hbw hBs) hgB hBs, keeps_set (keeps_below hbw) (kept ho hbw) (by decide)⟩
    · exact (jgoes_o5 rb g pb k rows.length cap mb vf pv x pf pp sbody swhole w cur hb hpo ho hk (by omega) hlp hlb s1 s2 s3 s4 h5 hpf).mono (fun e w' => hbad 18 (by decide) (by simp [goS, h5, hpf]) e w')
  exact (jgoes_ox rb g pb k rows.length cap mb vf pv x pf pp sbody swhole w cur hb hpo ho hk (by omega) hlp hlb s1 s2 s3 s4 h2 h4 h5).mono (fun e w' => hbad 18 (by decide) (by simp [goS, h2, h4, h5]) e w')
end Go.Proofs.YtniflggmfegnfaaDoor

/- A region that draws its order: what reads a block that a later operation writes; stores of what was made; a map's update with a box that was made. No condition. -/
namespace Go.Proofs.YtniflggmfegnfaaDoor
open Go.RowKit
theorem info_snt : (Tryd.prog.info? 40).map (fun i => (i.zero, i.size, i.bytes)) = some (some (.agg #[.int .i64 0, .slice none 0 0, .string (bs []), .bool false, .bool false]), 5, 56) := by kernel_rfl
theorem inf_snt : ∃ i, Tryd.prog.info? 40 = some i ∧ i.zero = some (.agg #[.int .i64 0, .slice none 0 0, .string (bs []), .bool false, .bool false]) ∧ i.size = 5 ∧ i.bytes = 56 := by
  obtain ⟨i, hi, h⟩ := Option.map_eq_some_iff.1 info_snt
  simp only [Prod.mk.injEq] at h
  exact ⟨i, hi, h.1, h.2.1, h.2.2⟩
theorem info_int : (Tryd.prog.info? 3).map (fun i => (i.zero, i.size, i.bytes)) = some (some (.int .i64 0), 1, 8) := by kernel_rfl
theorem inf_int : ∃ i, Tryd.prog.info? 3 = some i ∧ i.zero = some (.int .i64 0) ∧ i.size = 1 ∧ i.bytes = 8 := by
  obtain ⟨i, hi, h⟩ := Option.map_eq_some_iff.1 info_int
  simp only [Prod.mk.injEq] at h
  exact ⟨i, hi, h.1, h.2.1, h.2.2⟩
namespace Rg
/-- A pointer to a block that was made, and holds ob. -/
def Made (ob : Obj) : Value → (Nat → Prop) → World → Prop := fun v F w => ∃ g, v = .pointer (some ⟨g, 0, none⟩) ∧ w.heap[g]? = some ob ∧ ∀ k, F k ↔ k = g
theorem stable_made {w0 : World} {own0 : Nat → Nat → Prop} {ob : Obj} {l : List Fact} (h : ∀ φ ∈ l, Stable w0 own0 φ) : ∀ φ ∈ Fact.any (Made ob) :: l, Stable w0 own0 φ := fun φ hm => by
  rcases List.mem_cons.1 hm with rfl | hm
  · rintro v F M w w' ⟨g, hv, hb, hF⟩ hs hM
    exact ⟨g, hv, by rw [hs.block g (box_lt hb) (fun hm => (hM g hm).1 ((hF g).2 rfl))]; exact hb, hF⟩
  · exact h φ hm
/-- A map that leads, at a key, to a block that was made, and holds ob. -/
def MapMade (mb n : Nat) (f : Int → Option Nat) (k : Int) (ob : Obj) (B : Nat) : Value → (Nat → Prop) → World → Prop := fun _ F w => ∃ g, PMap w mb n (fun x => if x = k then some g else f x) ∧ w.heap[g]? = some ob ∧ B ≤ g ∧ ∀ j, F j ↔ j = mb ∨ j = g
theorem stable_mapMade {w0 : World} {own0 : Nat → Nat → Prop} {mb n : Nat} {f : Int → Option Nat} {k : Int} {ob : Obj} {B : Nat} {l : List Fact} (h : ∀ φ ∈ l, Stable w0 own0 φ) : ∀ φ ∈ Fact.any (MapMade mb n f k ob B) :: l, Stable w0 own0 φ := fun φ hm => by
  rcases List.mem_cons.1 hm with rfl | hm
  · rintro v F M w w' ⟨g, hm, hb, hB, hF⟩ hs hM
    refine ⟨g, hm.step hs (fun hx => (hM mb hx).1 ((hF mb).2 (.inl rfl))), ?_, hB, hF⟩
    rw [hs.block g (box_lt hb) (fun hm => (hM g hm).1 ((hF g).2 (.inr rfl)))]; exact hb
  · exact h φ hm
/-- Block b holds a box of which one cell is a row, and the row. -/
def BoxRow (b : Nat) (mk : Value → Obj) (e : TypeId) (size n : Nat) (xs : List Value) : Value → (Nat → Prop) → World → Prop := fun _ F w =>
  ∃ u, w.heap[b]? = some (mk u) ∧ w.ownsRow 0 e size u n xs ∧ u.ownBlock ≠ some b ∧ ∀ k, F k ↔ k = b ∨ u.ownBlock = some k
/-- .. of which two cells are rows. -/
def BoxRow2 (b : Nat) (mk : Value → Value → Obj) (e : TypeId) (size n : Nat) (xs : List Value) (e2 : TypeId) (size2 n2 : Nat) (ys : List Value) : Value → (Nat → Prop) → World → Prop := fun _ F w =>
  ∃ u v, w.heap[b]? = some (mk u v) ∧ w.ownsRow 0 e size u n xs ∧ w.ownsRow 0 e2 size2 v n2 ys ∧ ∀ k, F k ↔ k = b ∨ u.ownBlock = some k ∨ v.ownBlock = some k
theorem stable_boxRow {w0 : World} {own0 : Nat → Nat → Prop} {b : Nat} {mk : Value → Obj} {e : TypeId} {size n : Nat} {xs : List Value} {l : List Fact} (h : ∀ φ ∈ l, Stable w0 own0 φ) : ∀ φ ∈ Fact.any (BoxRow b mk e size n xs) :: l, Stable w0 own0 φ := fun φ hm => by
  rcases List.mem_cons.1 hm with rfl | hm
  · rintro _ F M w w' ⟨u, hb, hr, hne, hF⟩ hs hM
    exact ⟨u, by rw [hs.block b (box_lt hb) (fun hm => (hM b hm).1 ((hF b).2 (.inl rfl)))]; exact hb, ownsRow_step hr hs (fun k hk hm => (hM k hm).1 ((hF k).2 (.inr hk))), hne, hF⟩
  · exact h φ hm
theorem stable_boxRow2 {w0 : World} {own0 : Nat → Nat → Prop} {b : Nat} {mk : Value → Value → Obj} {e : TypeId} {size n : Nat} {xs : List Value} {e2 : TypeId} {size2 n2 : Nat} {ys : List Value} {l : List Fact} (h : ∀ φ ∈ l, Stable w0 own0 φ) : ∀ φ ∈ Fact.any (BoxRow2 b mk e size n xs e2 size2 n2 ys) :: l, Stable w0 own0 φ := fun φ hm => by
  rcases List.mem_cons.1 hm with rfl | hm
  · rintro _ F M w w' ⟨u, v, hb, hr, hr2, hF⟩ hs hM
    exact ⟨u, v, by rw [hs.block b (box_lt hb) (fun hm => (hM b hm).1 ((hF b).2 (.inl rfl)))]; exact hb, ownsRow_step hr hs (fun k hk hm => (hM k hm).1 ((hF k).2 (.inr (.inl hk)))), ownsRow_step hr2 hs (fun k hk hm => (hM k hm).1 ((hF k).2 (.inr (.inr hk)))), hF⟩
  · exact h φ hm
section
variable {P : Program} {ops : Array Oper} {w0 : World} {own0 : Nat → Nat → Prop} {cons : Nat → List Nat} {facts : List Fact} {i : Nat} {o : Oper} {vs : Nat → Value} {a : Act} {os : List Oper} {φs : List Fact}
/-- A load out of a block that operation j writes, which comes behind this one. -/
theorem Chain.readOld {c : Value} (j : Nat) (p : Oper) {b : Nat} {ob : Obj} (hb : w0.heap[b]? = some ob) (ho : own0 j b) (hj : ops[j]? = some p) (hd : (deps p).contains i = true) (hg : Region.wanted o (yielded ops a.tmps) = true)
    (h : ∀ w, Step (fun k => ∃ j, own0 j k) w0 w → w.heap[b]? = some ob → (execOp a.eval o).run P w = .ok (.value c) w)
    (hr : Chain P ops w0 own0 cons facts vs os φs (i + 1) (a.put o.dst c)) : Chain P ops w0 own0 cons facts vs (o :: os) (.val c :: φs) i a := by
  refine ⟨?_, hr⟩
  intro F w K hp hK
  rw [if_pos hg]
  unfold Oper.wp
  rw [h w hp.step (by rw [hp.later j p b hj (by simpa using hd) ho]; exact hb)]
  exact hK c w ⟨fun _ => False, Step.refl _ _, ⟨rfl, fun _ => id⟩, fun _ h => h.elim⟩
/-- .. of a row, whose block is this operation's own. -/
theorem Chain.startOld {e : TypeId} {size n : Nat} {xs : List Value} {v : Value} (j : Nat) (p : Oper) {b : Nat} {ob : Obj} (hv : w0.ownsRow 0 e size v n xs) (hov : ∀ k, v.ownBlock = some k → own0 i k) (hb : w0.heap[b]? = some ob) (ho : own0 j b) (hj : ops[j]? = some p) (hd : (deps p).contains i = true) (hg : Region.wanted o (yielded ops a.tmps) = true)
    (h : ∀ w, Step (fun k => ∃ j, own0 j k) w0 w → w.heap[b]? = some ob → (execOp a.eval o).run P w = .ok (.value v) w)
    (hr : Chain P ops w0 own0 cons facts vs os φs (i + 1) (a.put o.dst (vs i))) : Chain P ops w0 own0 cons facts vs (o :: os) (.any (Row e size n xs) :: φs) i a := by
  refine ⟨?_, hr⟩
  intro F w K hp hK
  rw [if_pos hg]
  unfold Oper.wp
  rw [h w hp.step (by rw [hp.later j p b hj (by simpa using hd) ho]; exact hb)]
  refine hK v w ⟨fun k => v.ownBlock = some k, Step.refl _ _, ⟨?_, fun k hk => hk⟩, fun k hk => ⟨Nat.lt_of_lt_of_le (hv.lt k hk).2 hp.step.size, .inr (.inl (hov k hk))⟩⟩
  refine ⟨hv.1, ?_⟩
  rcases hv.2 with hn | ⟨g, cap, cur, rfl, hb, hgg, rest⟩
  · exact .inl hn
  · exact .inr ⟨g, cap, cur, rfl, hb, by rw [hp.mine g (hov g rfl)]; exact hgg, rest⟩
/-- A store, into this operation's own block, of a row that operation d made. -/
theorem Chain.storeRow {b : Nat} {ob : Obj} {mk : Value → Obj} {e : TypeId} {size n : Nat} {xs : List Value} (d : Nat) (hf : facts[d]? = some (.any (Row e size n xs))) (hd : (deps o).contains d = true) (hn : ∀ j, j ≠ i → d ∉ cons j) (hc : d ∈ cons i) (hb : w0.heap[b]? = some ob) (ho : own0 i b) (hg : Region.wanted o (yielded ops a.tmps) = true)
    (h : ∀ w x cap, vs d = .slice x n cap → w.heap[b]? = some ob → ∃ w', (execOp a.eval o).run P w = .ok .skip w' ∧ w'.heap[b]? = some (mk (.slice x n cap)) ∧ Step (fun k => k = b) w w')
    (hr : Chain P ops w0 own0 cons facts vs os φs (i + 1) (a.put o.dst (vs i))) : Chain P ops w0 own0 cons facts vs (o :: os) (.any (BoxRow b mk e size n xs) :: φs) i a := by
  refine ⟨?_, hr⟩
  intro F w K hp hK
  rw [if_pos hg]
  unfold Oper.wp
  have hrow := hp.fact d _ (by simpa using hd) hn hf
  obtain ⟨x, cap, hx⟩ := own_slice hrow.1
  obtain ⟨w', hrun, hbox, hst⟩ := h w x cap hx (by rw [hp.mine b ho]; exact hb)
  have hne : ∀ k, (vs d).ownBlock = some k → k ≠ b := fun k hk e => (hp.own d k (by simpa using hd) hn (hrow.2 k hk)).2.2 (e ▸ ho)
  rw [hrun]
  rw [← hx] at hbox
  have hrow' := ownsRow_step hrow.1 hst hne
  refine hK undef w' ⟨fun k => k = b ∨ (vs d).ownBlock = some k, hst.mono (fun k _ hk => .inl (by rw [hk]; exact ho)), ⟨vs d, hbox, hrow', fun h => hne b h rfl, fun _ => Iff.rfl⟩, ?_⟩
  rintro k (rfl | hk)
  · exact ⟨box_lt hbox, .inr (.inl ho)⟩
  · exact ⟨(hrow'.lt k hk).2, .inr (.inr ⟨d, hc, hrow.2 k hk⟩)⟩
/-- .. into a box that operation c has written. -/
theorem Chain.storeRow2 {b : Nat} {mk : Value → Obj} {mk2 : Value → Value → Obj} {e : TypeId} {size n : Nat} {xs : List Value} {e2 : TypeId} {size2 n2 : Nat} {ys : List Value} (c d : Nat) (hf : facts[d]? = some (.any (Row e2 size2 n2 ys))) (hd : (deps o).contains d = true) (hn : ∀ j, j ≠ i → d ∉ cons j) (hc : d ∈ cons i)
    (hfe : facts[c]? = some (.any (BoxRow b mk e size n xs))) (hde : (deps o).contains c = true) (hne : ∀ j, j ≠ i → c ∉ cons j) (hce : c ∈ cons i) (hcd : c ≠ d) (hg : Region.wanted o (yielded ops a.tmps) = true)
    (h : ∀ w u x cap, vs d = .slice x n2 cap → w.heap[b]? = some (mk u) → ∃ w', (execOp a.eval o).run P w = .ok .skip w' ∧ w'.heap[b]? = some (mk2 u (.slice x n2 cap)) ∧ Step (fun k => k = b) w w')
    (hr : Chain P ops w0 own0 cons facts vs os φs (i + 1) (a.put o.dst (vs i))) : Chain P ops w0 own0 cons facts vs (o :: os) (.any (BoxRow2 b mk2 e size n xs e2 size2 n2 ys) :: φs) i a := by
  refine ⟨?_, hr⟩
  intro F w K hp hK
  rw [if_pos hg]
  unfold Oper.wp
  have hrow := hp.fact d _ (by simpa using hd) hn hf
  obtain ⟨u, hbx, hru, hub, hF⟩ := hp.fact c _ (by simpa using hde) hne hfe
  obtain ⟨x, cap, hx⟩ := own_slice hrow.1
  obtain ⟨w', hrun, hbox, hst⟩ := h w u x cap hx hbx
  have hnb : ∀ k, (vs d).ownBlock = some k → k ≠ b := fun k hk e => hp.apart c d k (by simpa using hde) hne (by simpa using hd) hn hcd ((hF k).2 (.inl e)) (hrow.2 k hk)
  rw [hrun]
  rw [← hx] at hbox
  have hrow' := ownsRow_step hrow.1 hst hnb
  have hru' := ownsRow_step hru hst (fun k hk e => hub (e ▸ hk))
  refine hK undef w' ⟨fun k => k = b ∨ u.ownBlock = some k ∨ (vs d).ownBlock = some k, hst.mono (fun k _ hk => .inr ⟨c, hce, by rw [hk]; exact (hF b).2 (.inl rfl)⟩), ⟨u, vs d, hbox, hru', hrow', fun _ => Iff.rfl⟩, ?_⟩
  rintro k (rfl | hk | hk)
  · exact ⟨box_lt hbox, .inr (.inr ⟨c, hce, (hF k).2 (.inl rfl)⟩)⟩
  · exact ⟨(hru'.lt k hk).2, .inr (.inr ⟨c, hce, (hF k).2 (.inr hk)⟩)⟩
  · exact ⟨(hrow'.lt k hk).2, .inr (.inr ⟨d, hc, hrow.2 k hk⟩)⟩
/-- A map's update, the map this operation's own, with a pointer to a block that operation d made. -/
theorem Chain.mapMade {mb n : Nat} {f : Int → Option Nat} {k : Int} {ob : Obj} {t et : TypeId} (d : Nat) (m x v : Operand) (hop : o.op = Op.mapUpdate t m x v) (hm : a.eval m = .map (some mb)) (hx : a.eval x = .int .i64 k) (hv : a.eval v = vs d) (ht : Tryd.prog.underlying t = some (.map 3 et))
    (hP : P = Tryd.prog) (hmap : PMap w0 mb n f) (hn1 : n < maxLen) (hk : (Lit.int .i64 k).wf = true) (ho : own0 i mb)
    (hf : facts[d]? = some (.any (Made ob))) (hd : (deps o).contains d = true) (hn : ∀ j, j ≠ i → d ∉ cons j) (hc : d ∈ cons i) (hown : ∀ j g, own0 j g → j = i) (hg : Region.wanted o (yielded ops a.tmps) = true)
    (hr : Chain P ops w0 own0 cons facts vs os φs (i + 1) (a.put o.dst (vs i))) : Chain P ops w0 own0 cons facts vs (o :: os) (.any (MapMade mb (n + 1) f k ob w0.heap.size) :: φs) i a := by
  subst hP
  refine ⟨?_, hr⟩
  intro F w K hp hK
  rw [if_pos hg]
  obtain ⟨g, hvg, hbg, hF⟩ := hp.fact d _ (by simpa using hd) hn hf
  obtain ⟨_, hold, hmine⟩ := hp.own d g (by simpa using hd) hn ((hF g).2 rfl)
  have hgB : w0.heap.size ≤ g := by
    rcases Nat.lt_or_ge g w0.heap.size with hl | hge
    · exact absurd ⟨hl, fun j hj => hmine (by have := hown j g hj; subst this; exact hj)⟩ hold
    · exact hge
  have hmw : PMap w mb n f := by
    obtain ⟨D, ⟨es, cl, hb, r⟩, h2⟩ := hmap
    exact ⟨D, ⟨es, cl, by rw [hp.mine mb ho]; exact hb, r⟩, h2⟩
  have hgm : g ≠ mb := fun h => hmine (h ▸ ho)
  obtain ⟨w', hrun, hm', hon⟩ := hmw.update ht hn1 hk g
  unfold Oper.wp
  simp only [execOp, hop, hm, hx, hv, hvg, Sem.run_bind, hrun, Result.andThen_ok, Sem.run_pure]
  refine hK undef w' ⟨fun j => j = mb ∨ j = g, hon.mono (fun j _ hj => .inl (by rw [hj]; exact ho)), ⟨g, hm', ?_, hgB, fun _ => Iff.rfl⟩, ?_⟩
  · rw [hon.block g (box_lt hbg) hgm]; exact hbg
  · rintro j (rfl | rfl)
    · exact ⟨hm'.lt, .inr (.inl ho)⟩
    · exact ⟨Nat.lt_of_lt_of_le (box_lt hbg) hon.size, .inr (.inr ⟨d, hc, (hF j).2 rfl⟩)⟩
end
end Rg
end Go.Proofs.YtniflggmfegnfaaDoor

/- What a judge makes of a record that begins a request. Conditions: the reading in memory. -/
namespace Go.Proofs.YtniflggmfegnfaaDoor
open Go.RowKit

theorem zero_place (w : World) : (zeroValue 93).run Tryd.prog w = .ok (.pointer none) w := by kernel_rfl
theorem code_two (x : Rec) : rbC x = 0 ∨ rbC x = 10 := by unfold rbC; split <;> simp

set_option maxRecDepth 100000 in
set_option maxHeartbeats 1000000 in
theorem jbeg_busy_any (rb mb n m cap : Nat) (g k pb : Nat) (pf : Int) (pp : Bs) (cur : Array Value) (vf : Value) (f : Int → Option Nat) (x : Rec) (fr : Int) (w : World) (hb : w.heap[rb]? = some (readObj (.slice (some ⟨g, 0, none⟩) m cap) mb vf)) (hm : PMap w mb n f) (hi : (Lit.int .i64 x.id).wf = true)
    (hf : f x.id = some pb) (hp : w.heap[pb]? = some (placeObj ⟨k, pf, pp⟩)) (ho : w.heap[g]? = some (.cells cur 40 (0, 0))) (hk : k < m) (s3 : w.cell? ⟨g, k * 5 + 3, none⟩ = some (.bool false)) (s4 : w.cell? ⟨g, k * 5 + 4, none⟩ = some (.bool false)) (hn : m ≤ 1000000000) (hc : x.c.length ≤ 9223372036854775807)  :
    Calls Tryd.prog 29 #[.pointer (some ⟨rb, 0, none⟩), x.v, .int .i64 fr] w fun e w' => e = .returned (eV 18) ∧ Below w.heap.size w w' := by
  have hRB := fun w => rb_any x w hc
  generalize rbN x = role at *
  generalize rbK x = keep at *
  generalize rbC x = code at *
  have HRB := Lib.hid hRB
  obtain ⟨xt, xi, xc, xp⟩ := x
  simp only at *
  clear hRB hc
  have zb := box_lt hb
  have zp := box_lt hp
  have zg := box_lt ho
  go_enter Tryd.func29, Tryd.ntmps29
  go_wp2_with fail
  refine (HRB.out _).mono ?_
  rintro e w1 ⟨rfl, hbw⟩
  have hrec := new_alloc hbw
  have W1 := below_after hbw
  have hb' := kept hb W1
  have hm' := hm.kept W1
  have hp' := kept hp W1
  have ho' := kept ho W1
  rw [← W1.cell zg] at s3
  rw [← W1.cell zg] at s4
  clear hb hm hbw hp ho
  have r1 := box_cells hrec 1
  have c0 := box_cells hb' 0
  have c1 := box_cells hb' 1
  have p0 := box_cells hp' 0
  have hk0 : 0 < m := by omega
  have zr := box_lt hrec
  have hL : ∀ n, (Instr.lookup 59 (.map (some mb)) (.int .i64 xi) false).run Tryd.prog (w1.drewN n) = .ok (ptrOf (f xi)) (w1.drewN n) := fun n => (hm'.kept (below_drewN (Below.refl _ w1) n)).look Tryd.underlying59 (zero_place _) hi
  rw [hf] at hL
  simp only [ptrOf] at hL
  go_wp2_with fail
  go_quiet (fail)
  go_wp2_with fail
  go_quiet (fail)
  go_wp2_with fail
  go_ret
  exact ⟨rfl, below_drewN W1 _⟩

set_option maxRecDepth 100000 in
set_option maxHeartbeats 1000000 in
theorem jbeg_new_form (rb mb n m cap : Nat) (va : Option Addr) (vf : Value) (f : Int → Option Nat) (x : Rec) (fr : Int) (w : World) (hb : w.heap[rb]? = some (readObj (.slice va m cap) mb vf)) (hm : PMap w mb n f) (hi : (Lit.int .i64 x.id).wf = true)
    (hf : f x.id = none) (hn : m ≤ 1000000000) (hc : x.c.length ≤ 9223372036854775807) (hC : rbC x = 10) :
    Calls Tryd.prog 29 #[.pointer (some ⟨rb, 0, none⟩), x.v, .int .i64 fr] w fun e w' => e = .returned (eV 18) ∧ Below w.heap.size w w' := by
  have hRB := fun w => rb_any x w hc
  generalize rbN x = role at *
  generalize rbK x = keep at *
  generalize rbC x = code at *
  subst hC
  have HRB := Lib.hid hRB
  obtain ⟨xt, xi, xc, xp⟩ := x
  simp only at *
  clear hRB hc
  have zb := box_lt hb
  go_enter Tryd.func29, Tryd.ntmps29
  go_wp2_with fail
  refine (HRB.out _).mono ?_
  rintro e w1 ⟨rfl, hbw⟩
  have hrec := new_alloc hbw
  have W1 := below_after hbw
  have hb' := kept hb W1
  have hm' := hm.kept W1
  clear hb hm hbw
  have r1 := box_cells hrec 1
  have c0 := box_cells hb' 0
  have c1 := box_cells hb' 1
  have zr := box_lt hrec
  have hL : ∀ n, (Instr.lookup 59 (.map (some mb)) (.int .i64 xi) false).run Tryd.prog (w1.drewN n) = .ok (ptrOf (f xi)) (w1.drewN n) := fun n => (hm'.kept (below_drewN (Below.refl _ w1) n)).look Tryd.underlying59 (zero_place _) hi
  rw [hf] at hL
  simp only [ptrOf] at hL
  simp only [errV_num (show (10 : Int) ≠ 0 by decide)]
  go_wp2_with fail
  go_quiet (fail)
  go_wp2_with fail
  go_quiet (fail)
  go_wp2_with fail
  refine (is_num 10 10 _).mono ?_
  rintro e w2 ⟨rfl, rfl⟩
  go_wp2_with fail
  go_ret
  exact ⟨rfl, below_drewN W1 _⟩

set_option maxRecDepth 100000 in
set_option maxHeartbeats 1000000 in
theorem jbeg_new_role (rb mb n m cap : Nat) (va : Option Addr) (vf : Value) (f : Int → Option Nat) (x : Rec) (fr : Int) (w : World) (hb : w.heap[rb]? = some (readObj (.slice va m cap) mb vf)) (hm : PMap w mb n f) (hi : (Lit.int .i64 x.id).wf = true)
    (hf : f x.id = none) (hn : m ≤ 1000000000) (hc : x.c.length ≤ 9223372036854775807) (hC : rbC x = 0) (hR : rbN x ≠ 1) :
    Calls Tryd.prog 29 #[.pointer (some ⟨rb, 0, none⟩), x.v, .int .i64 fr] w fun e w' => e = .returned (eV 18) ∧ Below w.heap.size w w' := by
  have hRB := fun w => rb_any x w hc
  generalize rbN x = role at *
  generalize rbK x = keep at *
  generalize rbC x = code at *
  subst hC
  have q1 : (role != 1) = true := by simpa using hR
  have q2 : (role == 1) = false := by simpa using hR
  clear hR
  have HRB := Lib.hid hRB
  obtain ⟨xt, xi, xc, xp⟩ := x
  simp only at *
  clear hRB hc
  have zb := box_lt hb
  go_enter Tryd.func29, Tryd.ntmps29
  go_wp2_with fail
  refine (HRB.out _).mono ?_
  rintro e w1 ⟨rfl, hbw⟩
  have hrec := new_alloc hbw
  have W1 := below_after hbw
  have hb' := kept hb W1
  have hm' := hm.kept W1
  clear hb hm hbw
  have r1 := box_cells hrec 1
  have c0 := box_cells hb' 0
  have c1 := box_cells hb' 1
  have zr := box_lt hrec
  have hL : ∀ n, (Instr.lookup 59 (.map (some mb)) (.int .i64 xi) false).run Tryd.prog (w1.drewN n) = .ok (ptrOf (f xi)) (w1.drewN n) := fun n => (hm'.kept (below_drewN (Below.refl _ w1) n)).look Tryd.underlying59 (zero_place _) hi
  rw [hf] at hL
  simp only [ptrOf] at hL
  simp only [errV_zero]
  go_wp2_with fail
  go_quiet (fail)
  go_wp2_with fail
  go_quiet (fail)
  go_wp2_with fail
  refine (is_nil 10 _).mono ?_
  rintro e w2 ⟨rfl, rfl⟩
  go_wp2_with fail
  go_ret
  exact ⟨rfl, below_drewN W1 _⟩

set_option maxRecDepth 100000 in
set_option maxHeartbeats 1000000 in
theorem jbeg_new_keep (rb mb n m cap : Nat) (va : Option Addr) (vf : Value) (f : Int → Option Nat) (x : Rec) (fr : Int) (w : World) (hb : w.heap[rb]? = some (readObj (.slice va m cap) mb vf)) (hm : PMap w mb n f) (hi : (Lit.int .i64 x.id).wf = true)
    (hf : f x.id = none) (hn : m ≤ 1000000000) (hc : x.c.length ≤ 9223372036854775807) (hC : rbC x = 0) (hR : rbN x = 1) (hK : rbK x = false) :
    Calls Tryd.prog 29 #[.pointer (some ⟨rb, 0, none⟩), x.v, .int .i64 fr] w fun e w' => e = .returned (eV 18) ∧ Below w.heap.size w w' := by
  have hRB := fun w => rb_any x w hc
  generalize rbN x = role at *
  generalize rbK x = keep at *
  generalize rbC x = code at *
  subst hC
  subst hR
  subst hK
  have HRB := Lib.hid hRB
  obtain ⟨xt, xi, xc, xp⟩ := x
  simp only at *
  clear hRB hc
  have zb := box_lt hb
  go_enter Tryd.func29, Tryd.ntmps29
  go_wp2_with fail
  refine (HRB.out _).mono ?_
  rintro e w1 ⟨rfl, hbw⟩
  have hrec := new_alloc hbw
  have W1 := below_after hbw
  have hb' := kept hb W1
  have hm' := hm.kept W1
  clear hb hm hbw
  have r1 := box_cells hrec 1
  have c0 := box_cells hb' 0
  have c1 := box_cells hb' 1
  have zr := box_lt hrec
  have hL : ∀ n, (Instr.lookup 59 (.map (some mb)) (.int .i64 xi) false).run Tryd.prog (w1.drewN n) = .ok (ptrOf (f xi)) (w1.drewN n) := fun n => (hm'.kept (below_drewN (Below.refl _ w1) n)).look Tryd.underlying59 (zero_place _) hi
  rw [hf] at hL
  simp only [ptrOf] at hL
  simp only [errV_zero]
  go_wp2_with fail
  go_quiet (fail)
  go_wp2_with fail
  go_quiet (fail)
  go_wp2_with fail
  refine (is_nil 10 _).mono ?_
  rintro e w2 ⟨rfl, rfl⟩
  go_wp2_with fail
  go_ret
  exact ⟨rfl, below_drewN W1 _⟩

set_option maxRecDepth 100000 in
set_option maxHeartbeats 1000000 in
theorem jbeg_whole_form (rb mb n m cap : Nat) (g k pb : Nat) (pf : Int) (pp : Bs) (cur : Array Value) (vf : Value) (f : Int → Option Nat) (x : Rec) (fr : Int) (w : World) (hb : w.heap[rb]? = some (readObj (.slice (some ⟨g, 0, none⟩) m cap) mb vf)) (hm : PMap w mb n f) (hi : (Lit.int .i64 x.id).wf = true)
    (hf : f x.id = some pb) (hp : w.heap[pb]? = some (placeObj ⟨k, pf, pp⟩)) (ho : w.heap[g]? = some (.cells cur 40 (0, 0))) (hk : k < m) (s3 : w.cell? ⟨g, k * 5 + 3, none⟩ = some (.bool true)) (hn : m ≤ 1000000000) (hc : x.c.length ≤ 9223372036854775807) (hC : rbC x = 10) :
    Calls Tryd.prog 29 #[.pointer (some ⟨rb, 0, none⟩), x.v, .int .i64 fr] w fun e w' => e = .returned (eV 18) ∧ Below w.heap.size w w' := by
  have hRB := fun w => rb_any x w hc
  generalize rbN x = role at *
  generalize rbK x = keep at *
  generalize rbC x = code at *
  subst hC
  have HRB := Lib.hid hRB
  obtain ⟨xt, xi, xc, xp⟩ := x
  simp only at *
  clear hRB hc
  have zb := box_lt hb
  have zp := box_lt hp
  have zg := box_lt ho
  go_enter Tryd.func29, Tryd.ntmps29
  go_wp2_with fail
  refine (HRB.out _).mono ?_
  rintro e w1 ⟨rfl, hbw⟩
  have hrec := new_alloc hbw
  have W1 := below_after hbw
  have hb' := kept hb W1
  have hm' := hm.kept W1
  have hp' := kept hp W1
  have ho' := kept ho W1
  rw [← W1.cell zg] at s3
  clear hb hm hbw hp ho
  have r1 := box_cells hrec 1
  have c0 := box_cells hb' 0
  have c1 := box_cells hb' 1
  have p0 := box_cells hp' 0
  have hk0 : 0 < m := by omega
  have zr := box_lt hrec
  have hL : ∀ n, (Instr.lookup 59 (.map (some mb)) (.int .i64 xi) false).run Tryd.prog (w1.drewN n) = .ok (ptrOf (f xi)) (w1.drewN n) := fun n => (hm'.kept (below_drewN (Below.refl _ w1) n)).look Tryd.underlying59 (zero_place _) hi
  rw [hf] at hL
  simp only [ptrOf] at hL
  simp only [errV_num (show (10 : Int) ≠ 0 by decide)]
  go_wp2_with fail
  go_quiet (fail)
  go_wp2_with fail
  go_quiet (fail)
  go_wp2_with fail
  refine (is_num 10 10 _).mono ?_
  rintro e w2 ⟨rfl, rfl⟩
  go_wp2_with fail
  go_ret
  exact ⟨rfl, below_drewN W1 _⟩

set_option maxRecDepth 100000 in
set_option maxHeartbeats 1000000 in
theorem jbeg_whole_role (rb mb n m cap : Nat) (g k pb : Nat) (pf : Int) (pp : Bs) (cur : Array Value) (vf : Value) (f : Int → Option Nat) (x : Rec) (fr : Int) (w : World) (hb : w.heap[rb]? = some (readObj (.slice (some ⟨g, 0, none⟩) m cap) mb vf)) (hm : PMap w mb n f) (hi : (Lit.int .i64 x.id).wf = true)
    (hf : f x.id = some pb) (hp : w.heap[pb]? = some (placeObj ⟨k, pf, pp⟩)) (ho : w.heap[g]? = some (.cells cur 40 (0, 0))) (hk : k < m) (s3 : w.cell? ⟨g, k * 5 + 3, none⟩ = some (.bool true)) (hn : m ≤ 1000000000) (hc : x.c.length ≤ 9223372036854775807) (hC : rbC x = 0) (hR : rbN x ≠ 1) :
    Calls Tryd.prog 29 #[.pointer (some ⟨rb, 0, none⟩), x.v, .int .i64 fr] w fun e w' => e = .returned (eV 18) ∧ Below w.heap.size w w' := by
  have hRB := fun w => rb_any x w hc
  generalize rbN x = role at *
  generalize rbK x = keep at *
  generalize rbC x = code at *
  subst hC
  have q1 : (role != 1) = true := by simpa using hR
  have q2 : (role == 1) = false := by simpa using hR
  clear hR
  have HRB := Lib.hid hRB
  obtain ⟨xt, xi, xc, xp⟩ := x
  simp only at *
  clear hRB hc
  have zb := box_lt hb
  have zp := box_lt hp
  have zg := box_lt ho
  go_enter Tryd.func29, Tryd.ntmps29
  go_wp2_with fail
  refine (HRB.out _).mono ?_
  rintro e w1 ⟨rfl, hbw⟩
  have hrec := new_alloc hbw
  have W1 := below_after hbw
  have hb' := kept hb W1
  have hm' := hm.kept W1
  have hp' := kept hp W1
  have ho' := kept ho W1
  rw [← W1.cell zg] at s3
  clear hb hm hbw hp ho
  have r1 := box_cells hrec 1
  have c0 := box_cells hb' 0
  have c1 := box_cells hb' 1
  have p0 := box_cells hp' 0
  have hk0 : 0 < m := by omega
  have zr := box_lt hrec
  have hL : ∀ n, (Instr.lookup 59 (.map (some mb)) (.int .i64 xi) false).run Tryd.prog (w1.drewN n) = .ok (ptrOf (f xi)) (w1.drewN n) := fun n => (hm'.kept (below_drewN (Below.refl _ w1) n)).look Tryd.underlying59 (zero_place _) hi
  rw [hf] at hL
  simp only [ptrOf] at hL
  simp only [errV_zero]
  go_wp2_with fail
  go_quiet (fail)
  go_wp2_with fail
  go_quiet (fail)
  go_wp2_with fail
  refine (is_nil 10 _).mono ?_
  rintro e w2 ⟨rfl, rfl⟩
  go_wp2_with fail
  go_ret
  exact ⟨rfl, below_drewN W1 _⟩

set_option maxRecDepth 100000 in
set_option maxHeartbeats 1000000 in
theorem jbeg_whole_keep (rb mb n m cap : Nat) (g k pb : Nat) (pf : Int) (pp : Bs) (cur : Array Value) (vf : Value) (f : Int → Option Nat) (x : Rec) (fr : Int) (w : World) (hb : w.heap[rb]? = some (readObj (.slice (some ⟨g, 0, none⟩) m cap) mb vf)) (hm : PMap w mb n f) (hi : (Lit.int .i64 x.id).wf = true)
    (hf : f x.id = some pb) (hp : w.heap[pb]? = some (placeObj ⟨k, pf, pp⟩)) (ho : w.heap[g]? = some (.cells cur 40 (0, 0))) (hk : k < m) (s3 : w.cell? ⟨g, k * 5 + 3, none⟩ = some (.bool true)) (hn : m ≤ 1000000000) (hc : x.c.length ≤ 9223372036854775807) (hC : rbC x = 0) (hR : rbN x = 1) (hK : rbK x = false) :
    Calls Tryd.prog 29 #[.pointer (some ⟨rb, 0, none⟩), x.v, .int .i64 fr] w fun e w' => e = .returned (eV 18) ∧ Below w.heap.size w w' := by
  have hRB := fun w => rb_any x w hc
  generalize rbN x = role at *
  generalize rbK x = keep at *
  generalize rbC x = code at *
  subst hC
  subst hR
  subst hK
  have HRB := Lib.hid hRB
  obtain ⟨xt, xi, xc, xp⟩ := x
  simp only at *
  clear hRB hc
  have zb := box_lt hb
  have zp := box_lt hp
  have zg := box_lt ho
  go_enter Tryd.func29, Tryd.ntmps29
  go_wp2_with fail
  refine (HRB.out _).mono ?_
  rintro e w1 ⟨rfl, hbw⟩
  have hrec := new_alloc hbw
  have W1 := below_after hbw
  have hb' := kept hb W1
  have hm' := hm.kept W1
  have hp' := kept hp W1
  have ho' := kept ho W1
  rw [← W1.cell zg] at s3
  clear hb hm hbw hp ho
  have r1 := box_cells hrec 1
  have c0 := box_cells hb' 0
  have c1 := box_cells hb' 1
  have p0 := box_cells hp' 0
  have hk0 : 0 < m := by omega
  have zr := box_lt hrec
  have hL : ∀ n, (Instr.lookup 59 (.map (some mb)) (.int .i64 xi) false).run Tryd.prog (w1.drewN n) = .ok (ptrOf (f xi)) (w1.drewN n) := fun n => (hm'.kept (below_drewN (Below.refl _ w1) n)).look Tryd.underlying59 (zero_place _) hi
  rw [hf] at hL
  simp only [ptrOf] at hL
  simp only [errV_zero]
  go_wp2_with fail
  go_quiet (fail)
  go_wp2_with fail
  go_quiet (fail)
  go_wp2_with fail
  refine (is_nil 10 _).mono ?_
  rintro e w2 ⟨rfl, rfl⟩
  go_wp2_with fail
  go_ret
  exact ⟨rfl, below_drewN W1 _⟩

set_option maxRecDepth 100000 in
set_option maxHeartbeats 1000000 in
theorem jbeg_cut_form (rb mb n m cap : Nat) (g k pb : Nat) (pf : Int) (pp : Bs) (cur : Array Value) (vf : Value) (f : Int → Option Nat) (x : Rec) (fr : Int) (w : World) (hb : w.heap[rb]? = some (readObj (.slice (some ⟨g, 0, none⟩) m cap) mb vf)) (hm : PMap w mb n f) (hi : (Lit.int .i64 x.id).wf = true)
    (hf : f x.id = some pb) (hp : w.heap[pb]? = some (placeObj ⟨k, pf, pp⟩)) (ho : w.heap[g]? = some (.cells cur 40 (0, 0))) (hk : k < m) (s3 : w.cell? ⟨g, k * 5 + 3, none⟩ = some (.bool false)) (s4 : w.cell? ⟨g, k * 5 + 4, none⟩ = some (.bool true)) (hn : m ≤ 1000000000) (hc : x.c.length ≤ 9223372036854775807) (hC : rbC x = 10) :
    Calls Tryd.prog 29 #[.pointer (some ⟨rb, 0, none⟩), x.v, .int .i64 fr] w fun e w' => e = .returned (eV 18) ∧ Below w.heap.size w w' := by
  have hRB := fun w => rb_any x w hc
  generalize rbN x = role at *
  generalize rbK x = keep at *
  generalize rbC x = code at *
  subst hC
  have HRB := Lib.hid hRB
  obtain ⟨xt, xi, xc, xp⟩ := x
  simp only at *
  clear hRB hc
  have zb := box_lt hb
  have zp := box_lt hp
  have zg := box_lt ho
  go_enter Tryd.func29, Tryd.ntmps29
  go_wp2_with fail
  refine (HRB.out _).mono ?_
  rintro e w1 ⟨rfl, hbw⟩
  have hrec := new_alloc hbw
  have W1 := below_after hbw
  have hb' := kept hb W1
  have hm' := hm.kept W1
  have hp' := kept hp W1
  have ho' := kept ho W1
  rw [← W1.cell zg] at s3
  rw [← W1.cell zg] at s4
  clear hb hm hbw hp ho
  have r1 := box_cells hrec 1
  have c0 := box_cells hb' 0
  have c1 := box_cells hb' 1
  have p0 := box_cells hp' 0
  have hk0 : 0 < m := by omega
  have zr := box_lt hrec
  have hL : ∀ n, (Instr.lookup 59 (.map (some mb)) (.int .i64 xi) false).run Tryd.prog (w1.drewN n) = .ok (ptrOf (f xi)) (w1.drewN n) := fun n => (hm'.kept (below_drewN (Below.refl _ w1) n)).look Tryd.underlying59 (zero_place _) hi
  rw [hf] at hL
  simp only [ptrOf] at hL
  simp only [errV_num (show (10 : Int) ≠ 0 by decide)]
  go_wp2_with fail
  go_quiet (fail)
  go_wp2_with fail
  go_quiet (fail)
  go_wp2_with fail
  refine (is_num 10 10 _).mono ?_
  rintro e w2 ⟨rfl, rfl⟩
  go_wp2_with fail
  go_ret
  exact ⟨rfl, below_drewN W1 _⟩

set_option maxRecDepth 100000 in
set_option maxHeartbeats 1000000 in
theorem jbeg_cut_role (rb mb n m cap : Nat) (g k pb : Nat) (pf : Int) (pp : Bs) (cur : Array Value) (vf : Value) (f : Int → Option Nat) (x : Rec) (fr : Int) (w : World) (hb : w.heap[rb]? = some (readObj (.slice (some ⟨g, 0, none⟩) m cap) mb vf)) (hm : PMap w mb n f) (hi : (Lit.int .i64 x.id).wf = true)
    (hf : f x.id = some pb) (hp : w.heap[pb]? = some (placeObj ⟨k, pf, pp⟩)) (ho : w.heap[g]? = some (.cells cur 40 (0, 0))) (hk : k < m) (s3 : w.cell? ⟨g, k * 5 + 3, none⟩ = some (.bool false)) (s4 : w.cell? ⟨g, k * 5 + 4, none⟩ = some (.bool true)) (hn : m ≤ 1000000000) (hc : x.c.length ≤ 9223372036854775807) (hC : rbC x = 0) (hR : rbN x ≠ 1) :
    Calls Tryd.prog 29 #[.pointer (some ⟨rb, 0, none⟩), x.v, .int .i64 fr] w fun e w' => e = .returned (eV 18) ∧ Below w.heap.size w w' := by
  have hRB := fun w => rb_any x w hc
  generalize rbN x = role at *
  generalize rbK x = keep at *
  generalize rbC x = code at *
  subst hC
  have q1 : (role != 1) = true := by simpa using hR
  have q2 : (role == 1) = false := by simpa using hR
  clear hR
  have HRB := Lib.hid hRB
  obtain ⟨xt, xi, xc, xp⟩ := x
  simp only at *
  clear hRB hc
  have zb := box_lt hb
  have zp := box_lt hp
  have zg := box_lt ho
  go_enter Tryd.func29, Tryd.ntmps29
  go_wp2_with fail
  refine (HRB.out _).mono ?_
  rintro e w1 ⟨rfl, hbw⟩
  have hrec := new_alloc hbw
  have W1 := below_after hbw
  have hb' := kept hb W1
  have hm' := hm.kept W1
  have hp' := kept hp W1
  have ho' := kept ho W1
  rw [← W1.cell zg] at s3
  rw [← W1.cell zg] at s4
  clear hb hm hbw hp ho
  have r1 := box_cells hrec 1
  have c0 := box_cells hb' 0
  have c1 := box_cells hb' 1
  have p0 := box_cells hp' 0
  have hk0 : 0 < m := by omega
  have zr := box_lt hrec
  have hL : ∀ n, (Instr.lookup 59 (.map (some mb)) (.int .i64 xi) false).run Tryd.prog (w1.drewN n) = .ok (ptrOf (f xi)) (w1.drewN n) := fun n => (hm'.kept (below_drewN (Below.refl _ w1) n)).look Tryd.underlying59 (zero_place _) hi
  rw [hf] at hL
  simp only [ptrOf] at hL
  simp only [errV_zero]
  go_wp2_with fail
  go_quiet (fail)
  go_wp2_with fail
  go_quiet (fail)
  go_wp2_with fail
  refine (is_nil 10 _).mono ?_
  rintro e w2 ⟨rfl, rfl⟩
  go_wp2_with fail
  go_ret
  exact ⟨rfl, below_drewN W1 _⟩

set_option maxRecDepth 100000 in
set_option maxHeartbeats 1000000 in
theorem jbeg_cut_keep (rb mb n m cap : Nat) (g k pb : Nat) (pf : Int) (pp : Bs) (cur : Array Value) (vf : Value) (f : Int → Option Nat) (x : Rec) (fr : Int) (w : World) (hb : w.heap[rb]? = some (readObj (.slice (some ⟨g, 0, none⟩) m cap) mb vf)) (hm : PMap w mb n f) (hi : (Lit.int .i64 x.id).wf = true)
    (hf : f x.id = some pb) (hp : w.heap[pb]? = some (placeObj ⟨k, pf, pp⟩)) (ho : w.heap[g]? = some (.cells cur 40 (0, 0))) (hk : k < m) (s3 : w.cell? ⟨g, k * 5 + 3, none⟩ = some (.bool false)) (s4 : w.cell? ⟨g, k * 5 + 4, none⟩ = some (.bool true)) (hn : m ≤ 1000000000) (hc : x.c.length ≤ 9223372036854775807) (hC : rbC x = 0) (hR : rbN x = 1) (hK : rbK x = false) :
    Calls Tryd.prog 29 #[.pointer (some ⟨rb, 0, none⟩), x.v, .int .i64 fr] w fun e w' => e = .returned (eV 18) ∧ Below w.heap.size w w' := by
  have hRB := fun w => rb_any x w hc
  generalize rbN x = role at *
  generalize rbK x = keep at *
  generalize rbC x = code at *
  subst hC
  subst hR
  subst hK
  have HRB := Lib.hid hRB
  obtain ⟨xt, xi, xc, xp⟩ := x
  simp only at *
  clear hRB hc
  have zb := box_lt hb
  have zp := box_lt hp
  have zg := box_lt ho
  go_enter Tryd.func29, Tryd.ntmps29
  go_wp2_with fail
  refine (HRB.out _).mono ?_
  rintro e w1 ⟨rfl, hbw⟩
  have hrec := new_alloc hbw
  have W1 := below_after hbw
  have hb' := kept hb W1
  have hm' := hm.kept W1
  have hp' := kept hp W1
  have ho' := kept ho W1
  rw [← W1.cell zg] at s3
  rw [← W1.cell zg] at s4
  clear hb hm hbw hp ho
  have r1 := box_cells hrec 1
  have c0 := box_cells hb' 0
  have c1 := box_cells hb' 1
  have p0 := box_cells hp' 0
  have hk0 : 0 < m := by omega
  have zr := box_lt hrec
  have hL : ∀ n, (Instr.lookup 59 (.map (some mb)) (.int .i64 xi) false).run Tryd.prog (w1.drewN n) = .ok (ptrOf (f xi)) (w1.drewN n) := fun n => (hm'.kept (below_drewN (Below.refl _ w1) n)).look Tryd.underlying59 (zero_place _) hi
  rw [hf] at hL
  simp only [ptrOf] at hL
  simp only [errV_zero]
  go_wp2_with fail
  go_quiet (fail)
  go_wp2_with fail
  go_quiet (fail)
  go_wp2_with fail
  refine (is_nil 10 _).mono ?_
  rintro e w2 ⟨rfl, rfl⟩
  go_wp2_with fail
  go_ret
  exact ⟨rfl, below_drewN W1 _⟩
end Go.Proofs.YtniflggmfegnfaaDoor

/- What a judge makes of a record that begins a request: where it does. Conditions: the reading in memory. -/
namespace Go.Proofs.YtniflggmfegnfaaDoor
open Go.RowKit

set_option maxRecDepth 100000 in
set_option maxHeartbeats 4000000 in
theorem jbeg_new_ok (rb mb n m cap : Nat) (va : Option Addr) (vf : Value) (f : Int → Option Nat) (x : Rec) (fr : Int) (w : World) (hb : w.heap[rb]? = some (readObj (.slice va m cap) mb vf)) (hm : PMap w mb n f) (hi : (Lit.int .i64 x.id).wf = true)
    (hf : f x.id = none) (hn : m ≤ 1000000000) (B kf : Nat) (xs ys : List Value) (hrow : w.ownsRow B 40 5 (.slice va m cap) m xs) (hfr : w.ownsRow B 3 1 vf kf ys) (hkf : kf ≤ 1000000000) (hnm : n ≤ 1000000000) (hrbB : B ≤ rb) (hc : x.c.length ≤ 9223372036854775807) (hC : rbC x = 0) (hR : rbN x = 1) (hK : rbK x = true) :
    Calls Tryd.prog 29 #[.pointer (some ⟨rb, 0, none⟩), x.v, .int .i64 fr] w fun e w' => e = .returned .nilIface ∧ ∃ v5 v6, w'.heap[rb]? = some (readObj v5 mb v6) ∧ w'.ownsRow B 40 5 v5 (m + 1) (xs ++ [.int .i64 x.id, .slice none 0 0, .string (bs []), .bool false, .bool false]) ∧ w'.ownsRow B 3 1 v6 (kf + 1) (ys ++ [.int .i64 fr]) ∧ ∃ pb2, PMap w' mb (n + 1) (fun y => if y = x.id then some pb2 else f y) ∧ w'.heap[pb2]? = some (placeObj ⟨m, 1, []⟩) ∧ w.heap.size ≤ pb2 ∧ Rg.Step (fun k => k = rb ∨ k = mb ∨ (Value.slice va m cap).ownBlock = some k ∨ vf.ownBlock = some k) w w' := by
  have hRB := fun w => rb_any x w hc
  generalize rbN x = role at *
  generalize rbK x = keep at *
  generalize rbC x = code at *
  subst hC
  subst hR
  subst hK
  have HRB := Lib.hid hRB
  obtain ⟨xt, xi, xc, xp⟩ := x
  simp only at *
  clear hRB hc
  have zb := box_lt hb
  go_enter Tryd.func29, Tryd.ntmps29
  go_wp2_with fail
  refine (HRB.out _).mono ?_
  rintro e w1 ⟨rfl, hbw⟩
  have hrec := new_alloc hbw
  have W1 := below_after hbw
  have hb' := kept hb W1
  have hm' := hm.kept W1
  clear hb hm hbw
  have r1 := box_cells hrec 1
  have c0 := box_cells hb' 0
  have c1 := box_cells hb' 1
  have zr := box_lt hrec
  have hL : ∀ n, (Instr.lookup 59 (.map (some mb)) (.int .i64 xi) false).run Tryd.prog (w1.drewN n) = .ok (ptrOf (f xi)) (w1.drewN n) := fun n => (hm'.kept (below_drewN (Below.refl _ w1) n)).look Tryd.underlying59 (zero_place _) hi
  rw [hf] at hL
  simp only [ptrOf] at hL
  simp only [errV_zero]
  go_wp2_with fail
  go_quiet (fail)
  go_wp2_with fail
  go_quiet (fail)
  go_wp2_with fail
  refine (is_nil 10 _).mono ?_
  rintro e w2 ⟨rfl, rfl⟩
  go_wp2_with fail
  have hrow' := own_kept hrow W1
  have hfr' := own_kept hfr W1
  clear hrow hfr
  generalize hu : w1.drewN _ = u
  have eb : u.heap[rb]? = some (readObj (.slice va m cap) mb vf) := by rw [← hu]; exact hb'
  have er : u.heap[w.heap.size]? = some (.cells #[.int .i64 xt, .int .i64 xi, .string (bs xc), .int .i64 xp] 33) := by rw [← hu]; exact hrec
  have em : PMap u mb n f := by rw [← hu]; exact hm'.kept (below_drewN (Below.refl _ w1) _)
  have eo : u.ownsRow B 40 5 (.slice va m cap) m xs := by rw [← hu]; exact own_kept hrow' (below_drewN (Below.refl _ w1) _)
  have ef : u.ownsRow B 3 1 vf kf ys := by rw [← hu]; exact own_kept hfr' (below_drewN (Below.refl _ w1) _)
  have Wu : Below w.heap.size w u := by rw [← hu]; exact below_drewN W1 _
  clear hL hu hb' hrec hm' hrow' hfr' r1 c0 c1 zr W1
  obtain ⟨vfa, vfc, rfl⟩ := own_slice ef
  obtain ⟨es, cl, emo⟩ := em.obj
  have hrm : rb ≠ mb := cells_map_ne eb emo
  have hRm : w.heap.size ≠ mb := cells_map_ne er emo
  have hrR : rb ≠ w.heap.size := by omega
  clear emo
  have hS : ∀ wx, Rg.Step (fun k => ∃ j, j = 13 ∧ k = mb) u wx → wx.cell? ⟨rb, 0, none⟩ = some (.slice va m cap) ∧ wx.cell? ⟨rb, 1, none⟩ = some (.map (some mb)) ∧ wx.cell? ⟨w.heap.size, 1, none⟩ = some (.int .i64 xi) ∧ rb < wx.heap.size ∧ w.heap.size < wx.heap.size := by
    intro wx hs
    have h1 := (hs.block rb (box_lt eb) (by rintro ⟨_, _, h⟩; exact hrm h)).trans eb
    have h2 := (hs.block w.heap.size (box_lt er) (by rintro ⟨_, _, h⟩; exact hRm h)).trans er
    exact ⟨box_cells h1 0, box_cells h1 1, box_cells h2 1, box_lt h1, box_lt h2⟩
  refine Rg.region1 102 [.val ?_, .val ?_, .val ?_, .val ?_, .val ?_, .val ?_, .val ?_, .val ?_, .val ?_, .val ?_, .val ?_, .val ?_, .any (Rg.Made (placeObj ⟨m, 1, []⟩)), .any (Rg.MapMade mb (n + 1) f xi (placeObj ⟨m, 1, []⟩) u.heap.size)] [[], [], [], [], [], [], [], [], [], [], [], [], [], [12]] (fun j k => j = 13 ∧ k = mb) (by kernel_rfl) (by decide +kernel) (by simp) rfl (by simp) ?hstab ?hown ?hdis ?hchain ?hend
  case hstab => exact Rg.stable_val (Rg.stable_val (Rg.stable_val (Rg.stable_val (Rg.stable_val (Rg.stable_val (Rg.stable_val (Rg.stable_val (Rg.stable_val (Rg.stable_val (Rg.stable_val (Rg.stable_val (Rg.stable_made (Rg.stable_mapMade (Rg.stable_nil))))))))))))))
  case hchain =>
    intro vs
    -- 0: slot 67 := Op.move t0
    refine Rg.Chain.pure rfl (fun w => by go_simp; (try go_ints); with_reducible rfl) ?_
    simp only [Act.put, List.setIfInBounds_toArray, List.set_cons_succ, List.set_cons_zero]
    -- 1: slot 68 := Op.nilCheck t67
    refine Rg.Chain.pure rfl (fun w => by go_simp; (try go_ints); with_reducible rfl) ?_
    simp only [Act.put, List.setIfInBounds_toArray, List.set_cons_succ, List.set_cons_zero]
    -- 2: slot 69 := Op.fieldAddr 62 t68 1
    refine Rg.Chain.pure rfl (fun w => by go_simp; (try go_ints); with_reducible rfl) ?_
    simp only [Act.put, List.setIfInBounds_toArray, List.set_cons_succ, List.set_cons_zero]
    -- 3: slot 70 := Op.load 59 t69
    refine Rg.Chain.read rfl (fun wx hs => by obtain ⟨q0, q1, q2, q3, q4⟩ := hS wx hs; go_simp; with_reducible rfl) ?_
    simp only [Act.put, List.setIfInBounds_toArray, List.set_cons_succ, List.set_cons_zero]
    -- 4: slot 71 := Op.fieldAddr 33 t4 1
    refine Rg.Chain.pure rfl (fun w => by go_simp; (try go_ints); with_reducible rfl) ?_
    simp only [Act.put, List.setIfInBounds_toArray, List.set_cons_succ, List.set_cons_zero]
    -- 5: slot 72 := Op.load 3 t71
    refine Rg.Chain.read rfl (fun wx hs => by obtain ⟨q0, q1, q2, q3, q4⟩ := hS wx hs; go_simp; with_reducible rfl) ?_
    simp only [Act.put, List.setIfInBounds_toArray, List.set_cons_succ, List.set_cons_zero]
    -- 6: slot 73 := Op.move t0
    refine Rg.Chain.pure rfl (fun w => by go_simp; (try go_ints); with_reducible rfl) ?_
    simp only [Act.put, List.setIfInBounds_toArray, List.set_cons_succ, List.set_cons_zero]
    -- 7: slot 74 := Op.nilCheck t73
    refine Rg.Chain.pure rfl (fun w => by go_simp; (try go_ints); with_reducible rfl) ?_
    simp only [Act.put, List.setIfInBounds_toArray, List.set_cons_succ, List.set_cons_zero]
    -- 8: slot 75 := Op.fieldAddr 62 t74 0
    refine Rg.Chain.pure rfl (fun w => by go_simp; (try go_ints); with_reducible rfl) ?_
    simp only [Act.put, List.setIfInBounds_toArray, List.set_cons_succ, List.set_cons_zero]
    -- 9: slot 76 := Op.load 34 t75
    refine Rg.Chain.read rfl (fun wx hs => by obtain ⟨q0, q1, q2, q3, q4⟩ := hS wx hs; go_simp; with_reducible rfl) ?_
    simp only [Act.put, List.setIfInBounds_toArray, List.set_cons_succ, List.set_cons_zero]
    -- 10: slot 77 := Op.call ( builtin len, args := #[t76], argTypes := #[34] )
    refine Rg.Chain.pure rfl (fun w => by go_simp; (try go_ints); with_reducible rfl) ?_
    simp only [Act.put, List.setIfInBounds_toArray, List.set_cons_succ, List.set_cons_zero]
    -- 11: slot 78 := Op.build 112 #[(0, t77), (1, const (1:i64))]
    refine Rg.Chain.pure rfl (fun w => by go_simp; (try go_ints); with_reducible rfl) ?_
    simp only [Act.put, List.setIfInBounds_toArray, List.set_cons_succ, List.set_cons_zero]
    -- 12: slot 79 := Op.box 112 t78
    refine Rg.Chain.new ?_ ?_ rfl (fun w => ?_) (fun w => ?_) ?_
    rotate_left 2
    · go_simp; (try go_ints); (first | with_reducible rfl | (constructor <;> with_reducible rfl))
    · exact ⟨w.heap.size, rfl, heap_alloc_new w _, fun _ => Iff.rfl⟩
    simp only [Act.put, List.setIfInBounds_toArray, List.set_cons_succ, List.set_cons_zero]
    -- 13: slot none := Op.mapUpdate 59 t70 t72 t79
    refine Rg.Chain.mapMade 12 _ _ _ rfl rfl rfl rfl Tryd.underlying59 rfl em (by unfold maxLen; omega) hi ⟨rfl, rfl⟩ rfl (by decide) (Rg.only 13 12 (by decide)) (by decide) (by rintro j g ⟨rfl, _⟩; rfl) rfl ?_
    simp only [Act.put]
    exact Rg.Chain.nil
  case hown => rintro j k ⟨_, rfl⟩; exact em.lt
  case hdis => rintro i j k ⟨rfl, _⟩ ⟨rfl, _⟩; rfl
  case hend =>
    intro vs F w3 hE
    have f13 := hE.fact 13 _ (Rg.kept 13 (by decide)) rfl
    obtain ⟨pb2, em3, ep3, hpb, _⟩ := f13
    have hst : Rg.Step (fun k => k = mb) u w3 := hE.step.mono (fun k _ hk => by obtain ⟨_, _, h⟩ := hk; exact h)
    have eb3 : w3.heap[rb]? = some (readObj (.slice va m cap) mb (.slice vfa kf vfc)) := (hst.block rb (box_lt eb) hrm).trans eb
    have er3 : w3.heap[w.heap.size]? = some (.cells #[.int .i64 xt, .int .i64 xi, .string (bs xc), .int .i64 xp] 33) := (hst.block _ (box_lt er) hRm).trans er
    have eo3 : w3.ownsRow B 40 5 (.slice va m cap) m xs := own_map eo em.obj.choose_spec.choose_spec hst
    have ef3 : w3.ownsRow B 3 1 (.slice vfa kf vfc) kf ys := own_map ef em.obj.choose_spec.choose_spec hst
    clear hE hS eb er eo ef
    simp only [Rg.finalAct, Rg.slot_val, Rg.slot_any, Act.put, List.setIfInBounds_toArray, List.set_cons_succ, List.set_cons_zero]
    generalize vs 12 = v12
    generalize vs 13 = v13
    go_wp2_with fail
    have hst8 := hst
    clear hst
    have o3 : ∃ cur, (Value.slice va m cap).ownBlock = none ∨ ∃ g, (Value.slice va m cap).ownBlock = some g ∧ w3.heap[g]? = some (.cells cur 40 (0, 0)) := by
      cases hv : (Value.slice va m cap).ownBlock with
      | none => exact ⟨#[], .inl rfl⟩
      | some g => obtain ⟨cur, hc⟩ := own_obj eo3 hv; exact ⟨cur, .inr ⟨g, rfl, hc⟩⟩
    have hvne : ∀ k, (Value.slice va m cap).ownBlock = some k → k ≠ rb ∧ k ≠ w.heap.size ∧ (Value.slice vfa kf vfc).ownBlock ≠ some k := by
      intro k hk
      obtain ⟨cur, hc⟩ := own_obj eo3 hk
      refine ⟨cells_ne hc eb3 (by decide), cells_ne hc er3 (by decide), fun h => ?_⟩
      obtain ⟨cur2, hc2⟩ := own_obj ef3 h
      exact cells_ne hc hc2 (by decide) rfl
    have hfne : ∀ k, (Value.slice vfa kf vfc).ownBlock = some k → k ≠ rb ∧ k ≠ w.heap.size := by
      intro k hk
      obtain ⟨cur, hc⟩ := own_obj ef3 hk
      exact ⟨cells_ne hc eb3 (by decide), cells_ne hc er3 (by decide)⟩
    have zr3 := box_lt er3
    have hS : ∀ wx, Rg.Step (fun k => ∃ j, (j = 5 ∧ (Value.slice va m cap).ownBlock = some k) ∨ (j = 14 ∧ (Value.slice vfa kf vfc).ownBlock = some k) ∨ (j = 20 ∧ k = rb)) w3 wx → wx.cell? ⟨w.heap.size, 1, none⟩ = some (.int .i64 xi) ∧ w.heap.size < wx.heap.size := by
      intro wx hs
      have h2 := (hs.block w.heap.size zr3 (by rintro ⟨_, ⟨_, h⟩ | ⟨_, h⟩ | ⟨_, h⟩⟩; exact (hvne _ h).2.1 rfl; exact (hfne _ h).2 rfl; exact hrR h.symm)).trans er3
      exact ⟨box_cells h2 1, box_lt h2⟩
    clear o3
    refine Rg.region1 102 [.val ?_, .val ?_, .val ?_, .val ?_, .val ?_, .any (Rg.Row 40 5 m xs), .val ?_, .val ?_, .val ?_, .any (Rg.Row 40 5 1 [.int .i64 xi, .slice none 0 0, .string (bs []), .bool false, .bool false]), .any (Rg.Row 40 5 (m + 1) (xs ++ [.int .i64 xi, .slice none 0 0, .string (bs []), .bool false, .bool false])), .val ?_, .val ?_, .val ?_, .any (Rg.Row 3 1 kf ys), .val ?_, .any (Rg.Row 3 1 1 [.int .i64 fr]), .any (Rg.Row 3 1 (kf + 1) (ys ++ [.int .i64 fr])), .val ?_, .val ?_, .any (Rg.BoxRow rb (fun v => .cells #[v, .map (some mb), .slice vfa kf vfc] 62) 40 5 (m + 1) (xs ++ [.int .i64 xi, .slice none 0 0, .string (bs []), .bool false, .bool false])), .val ?_, .val ?_, .any (Rg.BoxRow2 rb (fun v v2 => .cells #[v, .map (some mb), v2] 62) 40 5 (m + 1) (xs ++ [.int .i64 xi, .slice none 0 0, .string (bs []), .bool false, .bool false]) 3 1 (kf + 1) (ys ++ [.int .i64 fr]))] [[], [], [], [], [], [], [], [], [], [], [5], [], [], [], [], [], [], [14], [], [], [10], [], [], [17, 20]] (fun j k => (j = 5 ∧ (Value.slice va m cap).ownBlock = some k) ∨ (j = 14 ∧ (Value.slice vfa kf vfc).ownBlock = some k) ∨ (j = 20 ∧ k = rb)) (by kernel_rfl) (by decide +kernel) (by simp) rfl (by simp) ?hstab ?hown ?hdis ?hchain ?hend
    case hstab => exact Rg.stable_val (Rg.stable_val (Rg.stable_val (Rg.stable_val (Rg.stable_val (Rg.stable_row (Rg.stable_val (Rg.stable_val (Rg.stable_val (Rg.stable_row (Rg.stable_row (Rg.stable_val (Rg.stable_val (Rg.stable_val (Rg.stable_row (Rg.stable_val (Rg.stable_row (Rg.stable_row (Rg.stable_val (Rg.stable_val (Rg.stable_boxRow (Rg.stable_val (Rg.stable_val (Rg.stable_boxRow2 (Rg.stable_nil))))))))))))))))))))))))
    case hchain =>
      intro vs
      -- 0: slot 80 := Op.move t0
      refine Rg.Chain.pure rfl (fun w => by go_simp; (try go_ints); with_reducible rfl) ?_
      simp only [Act.put, List.setIfInBounds_toArray, List.set_cons_succ, List.set_cons_zero]
      -- 1: slot 81 := Op.move t0
      refine Rg.Chain.pure rfl (fun w => by go_simp; (try go_ints); with_reducible rfl) ?_
      simp only [Act.put, List.setIfInBounds_toArray, List.set_cons_succ, List.set_cons_zero]
      -- 2: slot 82 := Op.move t0
      refine Rg.Chain.pure rfl (fun w => by go_simp; (try go_ints); with_reducible rfl) ?_
      simp only [Act.put, List.setIfInBounds_toArray, List.set_cons_succ, List.set_cons_zero]
      -- 3: slot 83 := Op.nilCheck t82
      refine Rg.Chain.pure rfl (fun w => by go_simp; (try go_ints); with_reducible rfl) ?_
      simp only [Act.put, List.setIfInBounds_toArray, List.set_cons_succ, List.set_cons_zero]
      -- 4: slot 84 := Op.fieldAddr 62 t83 0
      refine Rg.Chain.pure rfl (fun w => by go_simp; (try go_ints); with_reducible rfl) ?_
      simp only [Act.put, List.setIfInBounds_toArray, List.set_cons_succ, List.set_cons_zero]
      -- 5: slot 85 := Op.load 34 t84
      refine Rg.Chain.startOld 20 _ (Rg.ownsRow_zero eo3) (fun k hk => .inl ⟨rfl, hk⟩) eb3 (.inr (.inr ⟨rfl, rfl⟩)) rfl (by decide) rfl (fun wx hs hx => by have q := box_cells hx 0; have z := box_lt hx; go_simp; try with_reducible rfl) ?_
      simp only [Act.put, List.setIfInBounds_toArray, List.set_cons_succ, List.set_cons_zero]
      -- 6: slot 86 := Op.fieldAddr 33 t4 1
      refine Rg.Chain.pure rfl (fun w => by go_simp; (try go_ints); with_reducible rfl) ?_
      simp only [Act.put, List.setIfInBounds_toArray, List.set_cons_succ, List.set_cons_zero]
      -- 7: slot 87 := Op.load 3 t86
      refine Rg.Chain.read rfl (fun wx hs => by obtain ⟨q0, q1⟩ := hS wx hs; go_simp; with_reducible rfl) ?_
      simp only [Act.put, List.setIfInBounds_toArray, List.set_cons_succ, List.set_cons_zero]
      -- 8: slot 88 := Op.build 40 #[(0, t87)]
      refine Rg.Chain.pure rfl (fun w => by go_simp; (try go_ints); with_reducible rfl) ?_
      simp only [Act.put, List.setIfInBounds_toArray, List.set_cons_succ, List.set_cons_zero]
      -- 9: slot 89 := Op.buildSlice 34 1 #[(0, t88)]
      refine Rg.Chain.new ?_ ?_ rfl (fun w => ?_) (fun w => ?_) ?_
      rotate_left 2
      · go_simp; (try go_ints); (first | with_reducible rfl | (constructor <;> with_reducible rfl))
      · exact Rg.row_new w 40 5 1 #[.int .i64 xi, .slice none 0 0, .string (bs []), .bool false, .bool false] rfl (by simp [maxLen])
      simp only [Act.put, List.setIfInBounds_toArray, List.set_cons_succ, List.set_cons_zero]
      -- 10: slot 90 := Op.call ( builtin append, args := #[t85, t89], argTypes := #[34, 34] )
      obtain ⟨ti, hti, hzz, hsz, hby⟩ := inf_snt
      refine Rg.Chain.append 5 9 rfl 34 40 _ _ ti _ _ _ rfl rfl rfl (Tryd.underlying34) hti hzz hsz hby rfl (by decide) rfl rfl (by decide) (by decide) (Rg.only 10 5 (by decide)) (Rg.only 10 9 (by decide)) (by decide) (by intro y hy; simp at hy; rcases hy with rfl | rfl | rfl | rfl | rfl <;> rfl) (by unfold maxLen; omega) (by omega) ?_
      simp only [Act.put, List.setIfInBounds_toArray, List.set_cons_succ, List.set_cons_zero]
      -- 11: slot 91 := Op.move t0
      refine Rg.Chain.pure rfl (fun w => by go_simp; (try go_ints); with_reducible rfl) ?_
      simp only [Act.put, List.setIfInBounds_toArray, List.set_cons_succ, List.set_cons_zero]
      -- 12: slot 92 := Op.nilCheck t91
      refine Rg.Chain.pure rfl (fun w => by go_simp; (try go_ints); with_reducible rfl) ?_
      simp only [Act.put, List.setIfInBounds_toArray, List.set_cons_succ, List.set_cons_zero]
      -- 13: slot 93 := Op.fieldAddr 62 t92 2
      refine Rg.Chain.pure rfl (fun w => by go_simp; (try go_ints); with_reducible rfl) ?_
      simp only [Act.put, List.setIfInBounds_toArray, List.set_cons_succ, List.set_cons_zero]
      -- 14: slot 94 := Op.load 60 t93
      refine Rg.Chain.startOld 20 _ (Rg.ownsRow_zero ef3) (fun k hk => .inr (.inl ⟨rfl, hk⟩)) eb3 (.inr (.inr ⟨rfl, rfl⟩)) rfl (by decide) rfl (fun wx hs hx => by have q := box_cells hx 2; have z := box_lt hx; go_simp; try with_reducible rfl) ?_
      simp only [Act.put, List.setIfInBounds_toArray, List.set_cons_succ, List.set_cons_zero]
      -- 15: slot 95 := Op.move t2
      refine Rg.Chain.pure rfl (fun w => by go_simp; (try go_ints); with_reducible rfl) ?_
      simp only [Act.put, List.setIfInBounds_toArray, List.set_cons_succ, List.set_cons_zero]
      -- 16: slot 96 := Op.buildSlice 60 1 #[(0, t95)]
      refine Rg.Chain.new ?_ ?_ rfl (fun w => ?_) (fun w => ?_) ?_
      rotate_left 2
      · go_simp; (try go_ints); (first | with_reducible rfl | (constructor <;> with_reducible rfl))
      · exact Rg.row_new w 3 1 1 #[.int .i64 fr] rfl (by simp [maxLen])
      simp only [Act.put, List.setIfInBounds_toArray, List.set_cons_succ, List.set_cons_zero]
      -- 17: slot 97 := Op.call ( builtin append, args := #[t94, t96], argTypes := #[60, 60] )
      obtain ⟨ti, hti, hzz, hsz, hby⟩ := inf_int
      refine Rg.Chain.append 14 16 rfl 60 3 _ _ ti _ _ _ rfl rfl rfl (Tryd.underlying60) hti hzz hsz hby rfl (by decide) rfl rfl (by decide) (by decide) (Rg.only 17 14 (by decide)) (Rg.only 17 16 (by decide)) (by decide) (by intro y hy; simp at hy; subst hy; rfl) (by unfold maxLen; omega) (by omega) ?_
      simp only [Act.put, List.setIfInBounds_toArray, List.set_cons_succ, List.set_cons_zero]
      -- 18: slot 98 := Op.nilCheck t80
      refine Rg.Chain.pure rfl (fun w => by go_simp; (try go_ints); with_reducible rfl) ?_
      simp only [Act.put, List.setIfInBounds_toArray, List.set_cons_succ, List.set_cons_zero]
      -- 19: slot 99 := Op.fieldAddr 62 t98 0
      refine Rg.Chain.pure rfl (fun w => by go_simp; (try go_ints); with_reducible rfl) ?_
      simp only [Act.put, List.setIfInBounds_toArray, List.set_cons_succ, List.set_cons_zero]
      -- 20: slot none := Op.store 34 t99 t90
      refine Rg.Chain.storeRow 10 rfl (by decide) (Rg.only 20 10 (by decide)) (by decide) eb3 (.inr (.inr ⟨rfl, rfl⟩)) rfl (fun wx x1 cap1 hv1 hx => by have q := box_cells hx 0; have fz := box_free hx 0; have z := box_lt hx; exact ⟨wx.setCell ⟨rb, 0, none⟩ (.slice x1 (m + 1) cap1), by simp only [hv1]; go_simp, set_box hx _, Rg.step_set _ _ _ _⟩) ?_
      simp only [Act.put]
      -- 21: slot 100 := Op.nilCheck t81
      refine Rg.Chain.pure rfl (fun w => by go_simp; (try go_ints); with_reducible rfl) ?_
      simp only [Act.put, List.setIfInBounds_toArray, List.set_cons_succ, List.set_cons_zero]
      -- 22: slot 101 := Op.fieldAddr 62 t100 2
      refine Rg.Chain.pure rfl (fun w => by go_simp; (try go_ints); with_reducible rfl) ?_
      simp only [Act.put, List.setIfInBounds_toArray, List.set_cons_succ, List.set_cons_zero]
      -- 23: slot none := Op.store 60 t101 t97
      refine Rg.Chain.storeRow2 20 17 rfl (by decide) (Rg.only 23 17 (by decide)) (by decide) rfl (by decide) (Rg.only 23 20 (by decide)) (by decide) (by decide) rfl (fun wx u1 x1 cap1 hv1 hx => by have q := box_cells hx 2; have fz := box_free hx 2; have z := box_lt hx; exact ⟨wx.setCell ⟨rb, 2, none⟩ (.slice x1 (kf + 1) cap1), by simp only [hv1]; go_simp, set_box hx _, Rg.step_set _ _ _ _⟩) ?_
      simp only [Act.put]
      exact Rg.Chain.nil
    case hown =>
      rintro j k (⟨_, h⟩ | ⟨_, h⟩ | ⟨_, rfl⟩)
      · exact (eo3.lt k h).2
      · exact (ef3.lt k h).2
      · exact box_lt eb3
    case hdis =>
      rintro i j k (⟨rfl, h⟩ | ⟨rfl, h⟩ | ⟨rfl, h⟩) (⟨rfl, h'⟩ | ⟨rfl, h'⟩ | ⟨rfl, h'⟩)
      · rfl
      · exact absurd h' (hvne k h).2.2
      · exact absurd h' (hvne k h).1
      · exact absurd h (hvne k h').2.2
      · rfl
      · exact absurd h' (hfne k h).1
      · exact absurd h (hvne k h').1
      · exact absurd h (hfne k h').1
      · rfl
    case hend =>
      intro vs F w4 hE
      have f23 := hE.fact 23 _ (Rg.kept 23 (by decide)) rfl
      have hw3 : w.heap.size ≤ w3.heap.size := Nat.le_trans Wu.size hst8.size
      have hB : ∀ k, F 23 k → B ≤ k := by
        intro k hk
        obtain ⟨_, h⟩ := hE.own 23 _ k (Rg.kept 23 (by decide)) rfl hk
        rcases Nat.lt_or_ge k w3.heap.size with hl | hge
        · have : ∃ j, (j = 5 ∧ (Value.slice va m cap).ownBlock = some k) ∨ (j = 14 ∧ (Value.slice vfa kf vfc).ownBlock = some k) ∨ (j = 20 ∧ k = rb) := by
            by_cases hx : ∃ j, (j = 5 ∧ (Value.slice va m cap).ownBlock = some k) ∨ (j = 14 ∧ (Value.slice vfa kf vfc).ownBlock = some k) ∨ (j = 20 ∧ k = rb)
            · exact hx
            · exact absurd ⟨hl, fun j hj => hx ⟨j, hj⟩⟩ h
          obtain ⟨j, ⟨_, h⟩ | ⟨_, h⟩ | ⟨_, h⟩⟩ := this
          · exact (eo3.lt k h).1
          · exact (ef3.lt k h).1
          · rw [h]; exact hrbB
        · omega
      obtain ⟨v5, v6, eb4, eo4, ef4, hF⟩ := f23
      have hstep : Rg.Step (fun k => k = rb ∨ k = mb ∨ (Value.slice va m cap).ownBlock = some k ∨ (Value.slice vfa kf vfc).ownBlock = some k) w w4 :=
        ((Rg.below_step Wu rfl).trans (hst8.mono fun k _ hk => .inr (.inl hk))).trans (hE.step.mono fun k _ hk => by
          obtain ⟨j, ⟨_, h⟩ | ⟨_, h⟩ | ⟨_, h⟩⟩ := hk
          · exact .inr (.inr (.inl h))
          · exact .inr (.inr (.inr h))
          · exact .inl h)
      have em4 : PMap w4 mb (n + 1) (fun x => if x = xi then some pb2 else f x) := by
        obtain ⟨es2, cl2, hm2⟩ := em3.obj
        refine em3.step hE.step ?_
        rintro ⟨j, ⟨_, h⟩ | ⟨_, h⟩ | ⟨_, h⟩⟩
        · obtain ⟨cur, hc⟩ := own_obj eo3 h; exact cells_map_ne hc hm2 rfl
        · obtain ⟨cur, hc⟩ := own_obj ef3 h; exact cells_map_ne hc hm2 rfl
        · exact hrm h.symm
      have ep4 : w4.heap[pb2]? = some (placeObj ⟨m, 1, []⟩) := by
        refine (hE.step.block pb2 (box_lt ep3) ?_).trans ep3
        rintro ⟨j, ⟨_, h⟩ | ⟨_, h⟩ | ⟨_, h⟩⟩
        · obtain ⟨cur, hc⟩ := own_obj eo3 h; exact cells_ne hc ep3 (by decide) rfl
        · obtain ⟨cur, hc⟩ := own_obj ef3 h; exact cells_ne hc ep3 (by decide) rfl
        · rw [h] at ep3; exact cells_ne ep3 eb3 (by decide) rfl
      have eo5 := own_up eo4 (fun k hk => hB k ((hF k).2 (.inr (.inl hk))))
      have ef5 := own_up ef4 (fun k hk => hB k ((hF k).2 (.inr (.inr hk))))
      have hpw : w.heap.size ≤ pb2 := Nat.le_trans Wu.size hpb
      clear hE hF hB eo4 ef4 hS hvne hfne eb3 er3 eo3 ef3 em3 ep3
      simp only [Rg.finalAct, Rg.slot_val, Rg.slot_any, Act.put, List.setIfInBounds_toArray, List.set_cons_succ, List.set_cons_zero]
      generalize vs 5 = x5
      generalize vs 9 = x9
      generalize vs 10 = x10
      generalize vs 14 = x14
      generalize vs 16 = x16
      generalize vs 17 = x17
      generalize vs 20 = x20
      generalize vs 23 = x23
      go_wp2_with fail
      go_ret
      exact ⟨rfl, v5, v6, eb4, eo5, ef5, pb2, em4, ep4, hpw, hstep⟩

set_option maxRecDepth 100000 in
set_option maxHeartbeats 4000000 in
theorem jbeg_whole_ok (rb mb n m cap : Nat) (g k pb : Nat) (pf : Int) (pp : Bs) (cur : Array Value) (vf : Value) (f : Int → Option Nat) (x : Rec) (fr : Int) (w : World) (hb : w.heap[rb]? = some (readObj (.slice (some ⟨g, 0, none⟩) m cap) mb vf)) (hm : PMap w mb n f) (hi : (Lit.int .i64 x.id).wf = true)
    (hf : f x.id = some pb) (hp : w.heap[pb]? = some (placeObj ⟨k, pf, pp⟩)) (ho : w.heap[g]? = some (.cells cur 40 (0, 0))) (hk : k < m) (s3 : w.cell? ⟨g, k * 5 + 3, none⟩ = some (.bool true)) (hn : m ≤ 1000000000) (B kf : Nat) (xs ys : List Value) (hrow : w.ownsRow B 40 5 (.slice (some ⟨g, 0, none⟩) m cap) m xs) (hfr : w.ownsRow B 3 1 vf kf ys) (hkf : kf ≤ 1000000000) (hnm : n ≤ 1000000000) (hrbB : B ≤ rb) (hc : x.c.length ≤ 9223372036854775807) (hC : rbC x = 0) (hR : rbN x = 1) (hK : rbK x = true) :
    Calls Tryd.prog 29 #[.pointer (some ⟨rb, 0, none⟩), x.v, .int .i64 fr] w fun e w' => e = .returned .nilIface ∧ ∃ v5 v6, w'.heap[rb]? = some (readObj v5 mb v6) ∧ w'.ownsRow B 40 5 v5 (m + 1) (xs ++ [.int .i64 x.id, .slice none 0 0, .string (bs []), .bool false, .bool false]) ∧ w'.ownsRow B 3 1 v6 (kf + 1) (ys ++ [.int .i64 fr]) ∧ ∃ pb2, PMap w' mb (n + 1) (fun y => if y = x.id then some pb2 else f y) ∧ w'.heap[pb2]? = some (placeObj ⟨m, 1, []⟩) ∧ w.heap.size ≤ pb2 ∧ Rg.Step (fun k => k = rb ∨ k = mb ∨ (Value.slice (some ⟨g, 0, none⟩) m cap).ownBlock = some k ∨ vf.ownBlock = some k) w w' := by
  have hRB := fun w => rb_any x w hc
  generalize rbN x = role at *
  generalize rbK x = keep at *
  generalize rbC x = code at *
  subst hC
  subst hR
  subst hK
  have HRB := Lib.hid hRB
  obtain ⟨xt, xi, xc, xp⟩ := x
  simp only at *
  clear hRB hc
  have zb := box_lt hb
  have zp := box_lt hp
  have zg := box_lt ho
  go_enter Tryd.func29, Tryd.ntmps29
  go_wp2_with fail
  refine (HRB.out _).mono ?_
  rintro e w1 ⟨rfl, hbw⟩
  have hrec := new_alloc hbw
  have W1 := below_after hbw
  have hb' := kept hb W1
  have hm' := hm.kept W1
  have hp' := kept hp W1
  have ho' := kept ho W1
  rw [← W1.cell zg] at s3
  clear hb hm hbw hp ho
  have r1 := box_cells hrec 1
  have c0 := box_cells hb' 0
  have c1 := box_cells hb' 1
  have p0 := box_cells hp' 0
  have hk0 : 0 < m := by omega
  have zr := box_lt hrec
  have hL : ∀ n, (Instr.lookup 59 (.map (some mb)) (.int .i64 xi) false).run Tryd.prog (w1.drewN n) = .ok (ptrOf (f xi)) (w1.drewN n) := fun n => (hm'.kept (below_drewN (Below.refl _ w1) n)).look Tryd.underlying59 (zero_place _) hi
  rw [hf] at hL
  simp only [ptrOf] at hL
  simp only [errV_zero]
  go_wp2_with fail
  go_quiet (fail)
  go_wp2_with fail
  go_quiet (fail)
  go_wp2_with fail
  refine (is_nil 10 _).mono ?_
  rintro e w2 ⟨rfl, rfl⟩
  go_wp2_with fail
  have hrow' := own_kept hrow W1
  have hfr' := own_kept hfr W1
  clear hrow hfr
  generalize hu : w1.drewN _ = u
  have eb : u.heap[rb]? = some (readObj (.slice (some ⟨g, 0, none⟩) m cap) mb vf) := by rw [← hu]; exact hb'
  have er : u.heap[w.heap.size]? = some (.cells #[.int .i64 xt, .int .i64 xi, .string (bs xc), .int .i64 xp] 33) := by rw [← hu]; exact hrec
  have em : PMap u mb n f := by rw [← hu]; exact hm'.kept (below_drewN (Below.refl _ w1) _)
  have eo : u.ownsRow B 40 5 (.slice (some ⟨g, 0, none⟩) m cap) m xs := by rw [← hu]; exact own_kept hrow' (below_drewN (Below.refl _ w1) _)
  have ef : u.ownsRow B 3 1 vf kf ys := by rw [← hu]; exact own_kept hfr' (below_drewN (Below.refl _ w1) _)
  have Wu : Below w.heap.size w u := by rw [← hu]; exact below_drewN W1 _
  clear hL hu hb' hrec hm' hrow' hfr' r1 c0 c1 zr W1 p0 hp' ho' s3
  obtain ⟨vfa, vfc, rfl⟩ := own_slice ef
  obtain ⟨es, cl, emo⟩ := em.obj
  have hrm : rb ≠ mb := cells_map_ne eb emo
  have hRm : w.heap.size ≠ mb := cells_map_ne er emo
  have hrR : rb ≠ w.heap.size := by omega
  clear emo
  have hS : ∀ wx, Rg.Step (fun k => ∃ j, j = 13 ∧ k = mb) u wx → wx.cell? ⟨rb, 0, none⟩ = some (.slice (some ⟨g, 0, none⟩) m cap) ∧ wx.cell? ⟨rb, 1, none⟩ = some (.map (some mb)) ∧ wx.cell? ⟨w.heap.size, 1, none⟩ = some (.int .i64 xi) ∧ rb < wx.heap.size ∧ w.heap.size < wx.heap.size := by
    intro wx hs
    have h1 := (hs.block rb (box_lt eb) (by rintro ⟨_, _, h⟩; exact hrm h)).trans eb
    have h2 := (hs.block w.heap.size (box_lt er) (by rintro ⟨_, _, h⟩; exact hRm h)).trans er
    exact ⟨box_cells h1 0, box_cells h1 1, box_cells h2 1, box_lt h1, box_lt h2⟩
  refine Rg.region1 102 [.val ?_, .val ?_, .val ?_, .val ?_, .val ?_, .val ?_, .val ?_, .val ?_, .val ?_, .val ?_, .val ?_, .val ?_, .any (Rg.Made (placeObj ⟨m, 1, []⟩)), .any (Rg.MapMade mb (n + 1) f xi (placeObj ⟨m, 1, []⟩) u.heap.size)] [[], [], [], [], [], [], [], [], [], [], [], [], [], [12]] (fun j k => j = 13 ∧ k = mb) (by kernel_rfl) (by decide +kernel) (by simp) rfl (by simp) ?hstab ?hown ?hdis ?hchain ?hend
  case hstab => exact Rg.stable_val (Rg.stable_val (Rg.stable_val (Rg.stable_val (Rg.stable_val (Rg.stable_val (Rg.stable_val (Rg.stable_val (Rg.stable_val (Rg.stable_val (Rg.stable_val (Rg.stable_val (Rg.stable_made (Rg.stable_mapMade (Rg.stable_nil))))))))))))))
  case hchain =>
    intro vs
    -- 0: slot 67 := Op.move t0
    refine Rg.Chain.pure rfl (fun w => by go_simp; (try go_ints); with_reducible rfl) ?_
    simp only [Act.put, List.setIfInBounds_toArray, List.set_cons_succ, List.set_cons_zero]
    -- 1: slot 68 := Op.nilCheck t67
    refine Rg.Chain.pure rfl (fun w => by go_simp; (try go_ints); with_reducible rfl) ?_
    simp only [Act.put, List.setIfInBounds_toArray, List.set_cons_succ, List.set_cons_zero]
    -- 2: slot 69 := Op.fieldAddr 62 t68 1
    refine Rg.Chain.pure rfl (fun w => by go_simp; (try go_ints); with_reducible rfl) ?_
    simp only [Act.put, List.setIfInBounds_toArray, List.set_cons_succ, List.set_cons_zero]
    -- 3: slot 70 := Op.load 59 t69
    refine Rg.Chain.read rfl (fun wx hs => by obtain ⟨q0, q1, q2, q3, q4⟩ := hS wx hs; go_simp; with_reducible rfl) ?_
    simp only [Act.put, List.setIfInBounds_toArray, List.set_cons_succ, List.set_cons_zero]
    -- 4: slot 71 := Op.fieldAddr 33 t4 1
    refine Rg.Chain.pure rfl (fun w => by go_simp; (try go_ints); with_reducible rfl) ?_
    simp only [Act.put, List.setIfInBounds_toArray, List.set_cons_succ, List.set_cons_zero]
    -- 5: slot 72 := Op.load 3 t71
    refine Rg.Chain.read rfl (fun wx hs => by obtain ⟨q0, q1, q2, q3, q4⟩ := hS wx hs; go_simp; with_reducible rfl) ?_
    simp only [Act.put, List.setIfInBounds_toArray, List.set_cons_succ, List.set_cons_zero]
    -- 6: slot 73 := Op.move t0
    refine Rg.Chain.pure rfl (fun w => by go_simp; (try go_ints); with_reducible rfl) ?_
    simp only [Act.put, List.setIfInBounds_toArray, List.set_cons_succ, List.set_cons_zero]
    -- 7: slot 74 := Op.nilCheck t73
    refine Rg.Chain.pure rfl (fun w => by go_simp; (try go_ints); with_reducible rfl) ?_
    simp only [Act.put, List.setIfInBounds_toArray, List.set_cons_succ, List.set_cons_zero]
    -- 8: slot 75 := Op.fieldAddr 62 t74 0
    refine Rg.Chain.pure rfl (fun w => by go_simp; (try go_ints); with_reducible rfl) ?_
    simp only [Act.put, List.setIfInBounds_toArray, List.set_cons_succ, List.set_cons_zero]
    -- 9: slot 76 := Op.load 34 t75
    refine Rg.Chain.read rfl (fun wx hs => by obtain ⟨q0, q1, q2, q3, q4⟩ := hS wx hs; go_simp; with_reducible rfl) ?_
    simp only [Act.put, List.setIfInBounds_toArray, List.set_cons_succ, List.set_cons_zero]
    -- 10: slot 77 := Op.call ( builtin len, args := #[t76], argTypes := #[34] )
    refine Rg.Chain.pure rfl (fun w => by go_simp; (try go_ints); with_reducible rfl) ?_
    simp only [Act.put, List.setIfInBounds_toArray, List.set_cons_succ, List.set_cons_zero]
    -- 11: slot 78 := Op.build 112 #[(0, t77), (1, const (1:i64))]
    refine Rg.Chain.pure rfl (fun w => by go_simp; (try go_ints); with_reducible rfl) ?_
    simp only [Act.put, List.setIfInBounds_toArray, List.set_cons_succ, List.set_cons_zero]
    -- 12: slot 79 := Op.box 112 t78
    refine Rg.Chain.new ?_ ?_ rfl (fun w => ?_) (fun w => ?_) ?_
    rotate_left 2
    · go_simp; (try go_ints); (first | with_reducible rfl | (constructor <;> with_reducible rfl))
    · exact ⟨w.heap.size, rfl, heap_alloc_new w _, fun _ => Iff.rfl⟩
    simp only [Act.put, List.setIfInBounds_toArray, List.set_cons_succ, List.set_cons_zero]
    -- 13: slot none := Op.mapUpdate 59 t70 t72 t79
    refine Rg.Chain.mapMade 12 _ _ _ rfl rfl rfl rfl Tryd.underlying59 rfl em (by unfold maxLen; omega) hi ⟨rfl, rfl⟩ rfl (by decide) (Rg.only 13 12 (by decide)) (by decide) (by rintro j g ⟨rfl, _⟩; rfl) rfl ?_
    simp only [Act.put]
    exact Rg.Chain.nil
  case hown => rintro j k ⟨_, rfl⟩; exact em.lt
  case hdis => rintro i j k ⟨rfl, _⟩ ⟨rfl, _⟩; rfl
  case hend =>
    intro vs F w3 hE
    have f13 := hE.fact 13 _ (Rg.kept 13 (by decide)) rfl
    obtain ⟨pb2, em3, ep3, hpb, _⟩ := f13
    have hst : Rg.Step (fun k => k = mb) u w3 := hE.step.mono (fun k _ hk => by obtain ⟨_, _, h⟩ := hk; exact h)
    have eb3 : w3.heap[rb]? = some (readObj (.slice (some ⟨g, 0, none⟩) m cap) mb (.slice vfa kf vfc)) := (hst.block rb (box_lt eb) hrm).trans eb
    have er3 : w3.heap[w.heap.size]? = some (.cells #[.int .i64 xt, .int .i64 xi, .string (bs xc), .int .i64 xp] 33) := (hst.block _ (box_lt er) hRm).trans er
    have eo3 : w3.ownsRow B 40 5 (.slice (some ⟨g, 0, none⟩) m cap) m xs := own_map eo em.obj.choose_spec.choose_spec hst
    have ef3 : w3.ownsRow B 3 1 (.slice vfa kf vfc) kf ys := own_map ef em.obj.choose_spec.choose_spec hst
    clear hE hS eb er eo ef
    simp only [Rg.finalAct, Rg.slot_val, Rg.slot_any, Act.put, List.setIfInBounds_toArray, List.set_cons_succ, List.set_cons_zero]
    generalize vs 12 = v12
    generalize vs 13 = v13
    go_wp2_with fail
    have hst8 := hst
    clear hst
    have o3 : ∃ cur, (Value.slice (some ⟨g, 0, none⟩) m cap).ownBlock = none ∨ ∃ g, (Value.slice (some ⟨g, 0, none⟩) m cap).ownBlock = some g ∧ w3.heap[g]? = some (.cells cur 40 (0, 0)) := by
      cases hv : (Value.slice (some ⟨g, 0, none⟩) m cap).ownBlock with
      | none => exact ⟨#[], .inl rfl⟩
      | some g => obtain ⟨cur, hc⟩ := own_obj eo3 hv; exact ⟨cur, .inr ⟨g, rfl, hc⟩⟩
    have hvne : ∀ k, (Value.slice (some ⟨g, 0, none⟩) m cap).ownBlock = some k → k ≠ rb ∧ k ≠ w.heap.size ∧ (Value.slice vfa kf vfc).ownBlock ≠ some k := by
      intro k hk
      obtain ⟨cur, hc⟩ := own_obj eo3 hk
      refine ⟨cells_ne hc eb3 (by decide), cells_ne hc er3 (by decide), fun h => ?_⟩
      obtain ⟨cur2, hc2⟩ := own_obj ef3 h
      exact cells_ne hc hc2 (by decide) rfl
    have hfne : ∀ k, (Value.slice vfa kf vfc).ownBlock = some k → k ≠ rb ∧ k ≠ w.heap.size := by
      intro k hk
      obtain ⟨cur, hc⟩ := own_obj ef3 hk
      exact ⟨cells_ne hc eb3 (by decide), cells_ne hc er3 (by decide)⟩
    have zr3 := box_lt er3
    have hS : ∀ wx, Rg.Step (fun k => ∃ j, (j = 5 ∧ (Value.slice (some ⟨g, 0, none⟩) m cap).ownBlock = some k) ∨ (j = 14 ∧ (Value.slice vfa kf vfc).ownBlock = some k) ∨ (j = 20 ∧ k = rb)) w3 wx → wx.cell? ⟨w.heap.size, 1, none⟩ = some (.int .i64 xi) ∧ w.heap.size < wx.heap.size := by
      intro wx hs
      have h2 := (hs.block w.heap.size zr3 (by rintro ⟨_, ⟨_, h⟩ | ⟨_, h⟩ | ⟨_, h⟩⟩; exact (hvne _ h).2.1 rfl; exact (hfne _ h).2 rfl; exact hrR h.symm)).trans er3
      exact ⟨box_cells h2 1, box_lt h2⟩
    clear o3
    refine Rg.region1 102 [.val ?_, .val ?_, .val ?_, .val ?_, .val ?_, .any (Rg.Row 40 5 m xs), .val ?_, .val ?_, .val ?_, .any (Rg.Row 40 5 1 [.int .i64 xi, .slice none 0 0, .string (bs []), .bool false, .bool false]), .any (Rg.Row 40 5 (m + 1) (xs ++ [.int .i64 xi, .slice none 0 0, .string (bs []), .bool false, .bool false])), .val ?_, .val ?_, .val ?_, .any (Rg.Row 3 1 kf ys), .val ?_, .any (Rg.Row 3 1 1 [.int .i64 fr]), .any (Rg.Row 3 1 (kf + 1) (ys ++ [.int .i64 fr])), .val ?_, .val ?_, .any (Rg.BoxRow rb (fun v => .cells #[v, .map (some mb), .slice vfa kf vfc] 62) 40 5 (m + 1) (xs ++ [.int .i64 xi, .slice none 0 0, .string (bs []), .bool false, .bool false])), .val ?_, .val ?_, .any (Rg.BoxRow2 rb (fun v v2 => .cells #[v, .map (some mb), v2] 62) 40 5 (m + 1) (xs ++ [.int .i64 xi, .slice none 0 0, .string (bs []), .bool false, .bool false]) 3 1 (kf + 1) (ys ++ [.int .i64 fr]))] [[], [], [], [], [], [], [], [], [], [], [5], [], [], [], [], [], [], [14], [], [], [10], [], [], [17, 20]] (fun j k => (j = 5 ∧ (Value.slice (some ⟨g, 0, none⟩) m cap).ownBlock = some k) ∨ (j = 14 ∧ (Value.slice vfa kf vfc).ownBlock = some k) ∨ (j = 20 ∧ k = rb)) (by kernel_rfl) (by decide +kernel) (by simp) rfl (by simp) ?hstab ?hown ?hdis ?hchain ?hend
    case hstab => exact Rg.stable_val (Rg.stable_val (Rg.stable_val (Rg.stable_val (Rg.stable_val (Rg.stable_row (Rg.stable_val (Rg.stable_val (Rg.stable_val (Rg.stable_row (Rg.stable_row (Rg.stable_val (Rg.stable_val (Rg.stable_val (Rg.stable_row (Rg.stable_val (Rg.stable_row (Rg.stable_row (Rg.stable_val (Rg.stable_val (Rg.stable_boxRow (Rg.stable_val (Rg.stable_val (Rg.stable_boxRow2 (Rg.stable_nil))))))))))))))))))))))))
    case hchain =>
      intro vs
      -- 0: slot 80 := Op.move t0
      refine Rg.Chain.pure rfl (fun w => by go_simp; (try go_ints); with_reducible rfl) ?_
      simp only [Act.put, List.setIfInBounds_toArray, List.set_cons_succ, List.set_cons_zero]
      -- 1: slot 81 := Op.move t0
      refine Rg.Chain.pure rfl (fun w => by go_simp; (try go_ints); with_reducible rfl) ?_
      simp only [Act.put, List.setIfInBounds_toArray, List.set_cons_succ, List.set_cons_zero]
      -- 2: slot 82 := Op.move t0
      refine Rg.Chain.pure rfl (fun w => by go_simp; (try go_ints); with_reducible rfl) ?_
      simp only [Act.put, List.setIfInBounds_toArray, List.set_cons_succ, List.set_cons_zero]
      -- 3: slot 83 := Op.nilCheck t82
      refine Rg.Chain.pure rfl (fun w => by go_simp; (try go_ints); with_reducible rfl) ?_
      simp only [Act.put, List.setIfInBounds_toArray, List.set_cons_succ, List.set_cons_zero]
      -- 4: slot 84 := Op.fieldAddr 62 t83 0
      refine Rg.Chain.pure rfl (fun w => by go_simp; (try go_ints); with_reducible rfl) ?_
      simp only [Act.put, List.setIfInBounds_toArray, List.set_cons_succ, List.set_cons_zero]
      -- 5: slot 85 := Op.load 34 t84
      refine Rg.Chain.startOld 20 _ (Rg.ownsRow_zero eo3) (fun k hk => .inl ⟨rfl, hk⟩) eb3 (.inr (.inr ⟨rfl, rfl⟩)) rfl (by decide) rfl (fun wx hs hx => by have q := box_cells hx 0; have z := box_lt hx; go_simp; try with_reducible rfl) ?_
      simp only [Act.put, List.setIfInBounds_toArray, List.set_cons_succ, List.set_cons_zero]
      -- 6: slot 86 := Op.fieldAddr 33 t4 1
      refine Rg.Chain.pure rfl (fun w => by go_simp; (try go_ints); with_reducible rfl) ?_
      simp only [Act.put, List.setIfInBounds_toArray, List.set_cons_succ, List.set_cons_zero]
      -- 7: slot 87 := Op.load 3 t86
      refine Rg.Chain.read rfl (fun wx hs => by obtain ⟨q0, q1⟩ := hS wx hs; go_simp; with_reducible rfl) ?_
      simp only [Act.put, List.setIfInBounds_toArray, List.set_cons_succ, List.set_cons_zero]
      -- 8: slot 88 := Op.build 40 #[(0, t87)]
      refine Rg.Chain.pure rfl (fun w => by go_simp; (try go_ints); with_reducible rfl) ?_
      simp only [Act.put, List.setIfInBounds_toArray, List.set_cons_succ, List.set_cons_zero]
      -- 9: slot 89 := Op.buildSlice 34 1 #[(0, t88)]
      refine Rg.Chain.new ?_ ?_ rfl (fun w => ?_) (fun w => ?_) ?_
      rotate_left 2
      · go_simp; (try go_ints); (first | with_reducible rfl | (constructor <;> with_reducible rfl))
      · exact Rg.row_new w 40 5 1 #[.int .i64 xi, .slice none 0 0, .string (bs []), .bool false, .bool false] rfl (by simp [maxLen])
      simp only [Act.put, List.setIfInBounds_toArray, List.set_cons_succ, List.set_cons_zero]
      -- 10: slot 90 := Op.call ( builtin append, args := #[t85, t89], argTypes := #[34, 34] )
      obtain ⟨ti, hti, hzz, hsz, hby⟩ := inf_snt
      refine Rg.Chain.append 5 9 rfl 34 40 _ _ ti _ _ _ rfl rfl rfl (Tryd.underlying34) hti hzz hsz hby rfl (by decide) rfl rfl (by decide) (by decide) (Rg.only 10 5 (by decide)) (Rg.only 10 9 (by decide)) (by decide) (by intro y hy; simp at hy; rcases hy with rfl | rfl | rfl | rfl | rfl <;> rfl) (by unfold maxLen; omega) (by omega) ?_
      simp only [Act.put, List.setIfInBounds_toArray, List.set_cons_succ, List.set_cons_zero]
      -- 11: slot 91 := Op.move t0
      refine Rg.Chain.pure rfl (fun w => by go_simp; (try go_ints); with_reducible rfl) ?_
      simp only [Act.put, List.setIfInBounds_toArray, List.set_cons_succ, List.set_cons_zero]
      -- 12: slot 92 := Op.nilCheck t91
      refine Rg.Chain.pure rfl (fun w => by go_simp; (try go_ints); with_reducible rfl) ?_
      simp only [Act.put, List.setIfInBounds_toArray, List.set_cons_succ, List.set_cons_zero]
      -- 13: slot 93 := Op.fieldAddr 62 t92 2
      refine Rg.Chain.pure rfl (fun w => by go_simp; (try go_ints); with_reducible rfl) ?_
      simp only [Act.put, List.setIfInBounds_toArray, List.set_cons_succ, List.set_cons_zero]
      -- 14: slot 94 := Op.load 60 t93
      refine Rg.Chain.startOld 20 _ (Rg.ownsRow_zero ef3) (fun k hk => .inr (.inl ⟨rfl, hk⟩)) eb3 (.inr (.inr ⟨rfl, rfl⟩)) rfl (by decide) rfl (fun wx hs hx => by have q := box_cells hx 2; have z := box_lt hx; go_simp; try with_reducible rfl) ?_
      simp only [Act.put, List.setIfInBounds_toArray, List.set_cons_succ, List.set_cons_zero]
      -- 15: slot 95 := Op.move t2
      refine Rg.Chain.pure rfl (fun w => by go_simp; (try go_ints); with_reducible rfl) ?_
      simp only [Act.put, List.setIfInBounds_toArray, List.set_cons_succ, List.set_cons_zero]
      -- 16: slot 96 := Op.buildSlice 60 1 #[(0, t95)]
      refine Rg.Chain.new ?_ ?_ rfl (fun w => ?_) (fun w => ?_) ?_
      rotate_left 2
      · go_simp; (try go_ints); (first | with_reducible rfl | (constructor <;> with_reducible rfl))
      · exact Rg.row_new w 3 1 1 #[.int .i64 fr] rfl (by simp [maxLen])
      simp only [Act.put, List.setIfInBounds_toArray, List.set_cons_succ, List.set_cons_zero]
      -- 17: slot 97 := Op.call ( builtin append, args := #[t94, t96], argTypes := #[60, 60] )
      obtain ⟨ti, hti, hzz, hsz, hby⟩ := inf_int
      refine Rg.Chain.append 14 16 rfl 60 3 _ _ ti _ _ _ rfl rfl rfl (Tryd.underlying60) hti hzz hsz hby rfl (by decide) rfl rfl (by decide) (by decide) (Rg.only 17 14 (by decide)) (Rg.only 17 16 (by decide)) (by decide) (by intro y hy; simp at hy; subst hy; rfl) (by unfold maxLen; omega) (by omega) ?_
      simp only [Act.put, List.setIfInBounds_toArray, List.set_cons_succ, List.set_cons_zero]
      -- 18: slot 98 := Op.nilCheck t80
      refine Rg.Chain.pure rfl (fun w => by go_simp; (try go_ints); with_reducible rfl) ?_
      simp only [Act.put, List.setIfInBounds_toArray, List.set_cons_succ, List.set_cons_zero]
      -- 19: slot 99 := Op.fieldAddr 62 t98 0
      refine Rg.Chain.pure rfl (fun w => by go_simp; (try go_ints); with_reducible rfl) ?_
      simp only [Act.put, List.setIfInBounds_toArray, List.set_cons_succ, List.set_cons_zero]
      -- 20: slot none := Op.store 34 t99 t90
      refine Rg.Chain.storeRow 10 rfl (by decide) (Rg.only 20 10 (by decide)) (by decide) eb3 (.inr (.inr ⟨rfl, rfl⟩)) rfl (fun wx x1 cap1 hv1 hx => by have q := box_cells hx 0; have fz := box_free hx 0; have z := box_lt hx; exact ⟨wx.setCell ⟨rb, 0, none⟩ (.slice x1 (m + 1) cap1), by simp only [hv1]; go_simp, set_box hx _, Rg.step_set _ _ _ _⟩) ?_
      simp only [Act.put]
      -- 21: slot 100 := Op.nilCheck t81
      refine Rg.Chain.pure rfl (fun w => by go_simp; (try go_ints); with_reducible rfl) ?_
      simp only [Act.put, List.setIfInBounds_toArray, List.set_cons_succ, List.set_cons_zero]
      -- 22: slot 101 := Op.fieldAddr 62 t100 2
      refine Rg.Chain.pure rfl (fun w => by go_simp; (try go_ints); with_reducible rfl) ?_
      simp only [Act.put, List.setIfInBounds_toArray, List.set_cons_succ, List.set_cons_zero]
      -- 23: slot none := Op.store 60 t101 t97
      refine Rg.Chain.storeRow2 20 17 rfl (by decide) (Rg.only 23 17 (by decide)) (by decide) rfl (by decide) (Rg.only 23 20 (by decide)) (by decide) (by decide) rfl (fun wx u1 x1 cap1 hv1 hx => by have q := box_cells hx 2; have fz := box_free hx 2; have z := box_lt hx; exact ⟨wx.setCell ⟨rb, 2, none⟩ (.slice x1 (kf + 1) cap1), by simp only [hv1]; go_simp, set_box hx _, Rg.step_set _ _ _ _⟩) ?_
      simp only [Act.put]
      exact Rg.Chain.nil
    case hown =>
      rintro j k (⟨_, h⟩ | ⟨_, h⟩ | ⟨_, rfl⟩)
      · exact (eo3.lt k h).2
      · exact (ef3.lt k h).2
      · exact box_lt eb3
    case hdis =>
      rintro i j k (⟨rfl, h⟩ | ⟨rfl, h⟩ | ⟨rfl, h⟩) (⟨rfl, h'⟩ | ⟨rfl, h'⟩ | ⟨rfl, h'⟩)
      · rfl
      · exact absurd h' (hvne k h).2.2
      · exact absurd h' (hvne k h).1
      · exact absurd h (hvne k h').2.2
      · rfl
      · exact absurd h' (hfne k h).1
      · exact absurd h (hvne k h').1
      · exact absurd h (hfne k h').1
      · rfl
    case hend =>
      intro vs F w4 hE
      have f23 := hE.fact 23 _ (Rg.kept 23 (by decide)) rfl
      have hw3 : w.heap.size ≤ w3.heap.size := Nat.le_trans Wu.size hst8.size
      have hB : ∀ k, F 23 k → B ≤ k := by
        intro k hk
        obtain ⟨_, h⟩ := hE.own 23 _ k (Rg.kept 23 (by decide)) rfl hk
        rcases Nat.lt_or_ge k w3.heap.size with hl | hge
        · have : ∃ j, (j = 5 ∧ (Value.slice (some ⟨g, 0, none⟩) m cap).ownBlock = some k) ∨ (j = 14 ∧ (Value.slice vfa kf vfc).ownBlock = some k) ∨ (j = 20 ∧ k = rb) := by
            by_cases hx : ∃ j, (j = 5 ∧ (Value.slice (some ⟨g, 0, none⟩) m cap).ownBlock = some k) ∨ (j = 14 ∧ (Value.slice vfa kf vfc).ownBlock = some k) ∨ (j = 20 ∧ k = rb)
            · exact hx
            · exact absurd ⟨hl, fun j hj => hx ⟨j, hj⟩⟩ h
          obtain ⟨j, ⟨_, h⟩ | ⟨_, h⟩ | ⟨_, h⟩⟩ := this
          · exact (eo3.lt k h).1
          · exact (ef3.lt k h).1
          · rw [h]; exact hrbB
        · omega
      obtain ⟨v5, v6, eb4, eo4, ef4, hF⟩ := f23
      have hstep : Rg.Step (fun k => k = rb ∨ k = mb ∨ (Value.slice (some ⟨g, 0, none⟩) m cap).ownBlock = some k ∨ (Value.slice vfa kf vfc).ownBlock = some k) w w4 :=
        ((Rg.below_step Wu rfl).trans (hst8.mono fun k _ hk => .inr (.inl hk))).trans (hE.step.mono fun k _ hk => by
          obtain ⟨j, ⟨_, h⟩ | ⟨_, h⟩ | ⟨_, h⟩⟩ := hk
          · exact .inr (.inr (.inl h))
          · exact .inr (.inr (.inr h))
          · exact .inl h)
      have em4 : PMap w4 mb (n + 1) (fun x => if x = xi then some pb2 else f x) := by
        obtain ⟨es2, cl2, hm2⟩ := em3.obj
        refine em3.step hE.step ?_
        rintro ⟨j, ⟨_, h⟩ | ⟨_, h⟩ | ⟨_, h⟩⟩
        · obtain ⟨cur, hc⟩ := own_obj eo3 h; exact cells_map_ne hc hm2 rfl
        · obtain ⟨cur, hc⟩ := own_obj ef3 h; exact cells_map_ne hc hm2 rfl
        · exact hrm h.symm
      have ep4 : w4.heap[pb2]? = some (placeObj ⟨m, 1, []⟩) := by
        refine (hE.step.block pb2 (box_lt ep3) ?_).trans ep3
        rintro ⟨j, ⟨_, h⟩ | ⟨_, h⟩ | ⟨_, h⟩⟩
        · obtain ⟨cur, hc⟩ := own_obj eo3 h; exact cells_ne hc ep3 (by decide) rfl
        · obtain ⟨cur, hc⟩ := own_obj ef3 h; exact cells_ne hc ep3 (by decide) rfl
        · rw [h] at ep3; exact cells_ne ep3 eb3 (by decide) rfl
      have eo5 := own_up eo4 (fun k hk => hB k ((hF k).2 (.inr (.inl hk))))
      have ef5 := own_up ef4 (fun k hk => hB k ((hF k).2 (.inr (.inr hk))))
      have hpw : w.heap.size ≤ pb2 := Nat.le_trans Wu.size hpb
      clear hE hF hB eo4 ef4 hS hvne hfne eb3 er3 eo3 ef3 em3 ep3
      simp only [Rg.finalAct, Rg.slot_val, Rg.slot_any, Act.put, List.setIfInBounds_toArray, List.set_cons_succ, List.set_cons_zero]
      generalize vs 5 = x5
      generalize vs 9 = x9
      generalize vs 10 = x10
      generalize vs 14 = x14
      generalize vs 16 = x16
      generalize vs 17 = x17
      generalize vs 20 = x20
      generalize vs 23 = x23
      go_wp2_with fail
      go_ret
      exact ⟨rfl, v5, v6, eb4, eo5, ef5, pb2, em4, ep4, hpw, hstep⟩

set_option maxRecDepth 100000 in
set_option maxHeartbeats 4000000 in
theorem jbeg_cut_ok (rb mb n m cap : Nat) (g k pb : Nat) (pf : Int) (pp : Bs) (cur : Array Value) (vf : Value) (f : Int → Option Nat) (x : Rec) (fr : Int) (w : World) (hb : w.heap[rb]? = some (readObj (.slice (some ⟨g, 0, none⟩) m cap) mb vf)) (hm : PMap w mb n f) (hi : (Lit.int .i64 x.id).wf = true)
    (hf : f x.id = some pb) (hp : w.heap[pb]? = some (placeObj ⟨k, pf, pp⟩)) (ho : w.heap[g]? = some (.cells cur 40 (0, 0))) (hk : k < m) (s3 : w.cell? ⟨g, k * 5 + 3, none⟩ = some (.bool false)) (s4 : w.cell? ⟨g, k * 5 + 4, none⟩ = some (.bool true)) (hn : m ≤ 1000000000) (B kf : Nat) (xs ys : List Value) (hrow : w.ownsRow B 40 5 (.slice (some ⟨g, 0, none⟩) m cap) m xs) (hfr : w.ownsRow B 3 1 vf kf ys) (hkf : kf ≤ 1000000000) (hnm : n ≤ 1000000000) (hrbB : B ≤ rb) (hc : x.c.length ≤ 9223372036854775807) (hC : rbC x = 0) (hR : rbN x = 1) (hK : rbK x = true) :
    Calls Tryd.prog 29 #[.pointer (some ⟨rb, 0, none⟩), x.v, .int .i64 fr] w fun e w' => e = .returned .nilIface ∧ ∃ v5 v6, w'.heap[rb]? = some (readObj v5 mb v6) ∧ w'.ownsRow B 40 5 v5 (m + 1) (xs ++ [.int .i64 x.id, .slice none 0 0, .string (bs []), .bool false, .bool false]) ∧ w'.ownsRow B 3 1 v6 (kf + 1) (ys ++ [.int .i64 fr]) ∧ ∃ pb2, PMap w' mb (n + 1) (fun y => if y = x.id then some pb2 else f y) ∧ w'.heap[pb2]? = some (placeObj ⟨m, 1, []⟩) ∧ w.heap.size ≤ pb2 ∧ Rg.Step (fun k => k = rb ∨ k = mb ∨ (Value.slice (some ⟨g, 0, none⟩) m cap).ownBlock = some k ∨ vf.ownBlock = some k) w w' := by
  have hRB := fun w => rb_any x w hc
  generalize rbN x = role at *
  generalize rbK x = keep at *
  generalize rbC x = code at *
  subst hC
  subst hR
  subst hK
  have HRB := Lib.hid hRB
  obtain ⟨xt, xi, xc, xp⟩ := x
  simp only at *
  clear hRB hc
  have zb := box_lt hb
  have zp := box_lt hp
  have zg := box_lt ho
  go_enter Tryd.func29, Tryd.ntmps29
  go_wp2_with fail
  refine (HRB.out _).mono ?_
  rintro e w1 ⟨rfl, hbw⟩
  have hrec := new_alloc hbw
  have W1 := below_after hbw
  have hb' := kept hb W1
  have hm' := hm.kept W1
  have hp' := kept hp W1
  have ho' := kept ho W1
  rw [← W1.cell zg] at s3
  rw [← W1.cell zg] at s4
  clear hb hm hbw hp ho
  have r1 := box_cells hrec 1
  have c0 := box_cells hb' 0
  have c1 := box_cells hb' 1
  have p0 := box_cells hp' 0
  have hk0 : 0 < m := by omega
  have zr := box_lt hrec
  have hL : ∀ n, (Instr.lookup 59 (.map (some mb)) (.int .i64 xi) false).run Tryd.prog (w1.drewN n) = .ok (ptrOf (f xi)) (w1.drewN n) := fun n => (hm'.kept (below_drewN (Below.refl _ w1) n)).look Tryd.underlying59 (zero_place _) hi
  rw [hf] at hL
  simp only [ptrOf] at hL
  simp only [errV_zero]
  go_wp2_with fail
  go_quiet (fail)
  go_wp2_with fail
  go_quiet (fail)
  go_wp2_with fail
  refine (is_nil 10 _).mono ?_
  rintro e w2 ⟨rfl, rfl⟩
  go_wp2_with fail
  have hrow' := own_kept hrow W1
  have hfr' := own_kept hfr W1
  clear hrow hfr
  generalize hu : w1.drewN _ = u
  have eb : u.heap[rb]? = some (readObj (.slice (some ⟨g, 0, none⟩) m cap) mb vf) := by rw [← hu]; exact hb'
  have er : u.heap[w.heap.size]? = some (.cells #[.int .i64 xt, .int .i64 xi, .string (bs xc), .int .i64 xp] 33) := by rw [← hu]; exact hrec
  have em : PMap u mb n f := by rw [← hu]; exact hm'.kept (below_drewN (Below.refl _ w1) _)
  have eo : u.ownsRow B 40 5 (.slice (some ⟨g, 0, none⟩) m cap) m xs := by rw [← hu]; exact own_kept hrow' (below_drewN (Below.refl _ w1) _)
  have ef : u.ownsRow B 3 1 vf kf ys := by rw [← hu]; exact own_kept hfr' (below_drewN (Below.refl _ w1) _)
  have Wu : Below w.heap.size w u := by rw [← hu]; exact below_drewN W1 _
  clear hL hu hb' hrec hm' hrow' hfr' r1 c0 c1 zr W1 p0 hp' ho' s3 s4
  obtain ⟨vfa, vfc, rfl⟩ := own_slice ef
  obtain ⟨es, cl, emo⟩ := em.obj
  have hrm : rb ≠ mb := cells_map_ne eb emo
  have hRm : w.heap.size ≠ mb := cells_map_ne er emo
  have hrR : rb ≠ w.heap.size := by omega
  clear emo
  have hS : ∀ wx, Rg.Step (fun k => ∃ j, j = 13 ∧ k = mb) u wx → wx.cell? ⟨rb, 0, none⟩ = some (.slice (some ⟨g, 0, none⟩) m cap) ∧ wx.cell? ⟨rb, 1, none⟩ = some (.map (some mb)) ∧ wx.cell? ⟨w.heap.size, 1, none⟩ = some (.int .i64 xi) ∧ rb < wx.heap.size ∧ w.heap.size < wx.heap.size := by
    intro wx hs
    have h1 := (hs.block rb (box_lt eb) (by rintro ⟨_, _, h⟩; exact hrm h)).trans eb
    have h2 := (hs.block w.heap.size (box_lt er) (by rintro ⟨_, _, h⟩; exact hRm h)).trans er
    exact ⟨box_cells h1 0, box_cells h1 1, box_cells h2 1, box_lt h1, box_lt h2⟩
  refine Rg.region1 102 [.val ?_, .val ?_, .val ?_, .val ?_, .val ?_, .val ?_, .val ?_, .val ?_, .val ?_, .val ?_, .val ?_, .val ?_, .any (Rg.Made (placeObj ⟨m, 1, []⟩)), .any (Rg.MapMade mb (n + 1) f xi (placeObj ⟨m, 1, []⟩) u.heap.size)] [[], [], [], [], [], [], [], [], [], [], [], [], [], [12]] (fun j k => j = 13 ∧ k = mb) (by kernel_rfl) (by decide +kernel) (by simp) rfl (by simp) ?hstab ?hown ?hdis ?hchain ?hend
  case hstab => exact Rg.stable_val (Rg.stable_val (Rg.stable_val (Rg.stable_val (Rg.stable_val (Rg.stable_val (Rg.stable_val (Rg.stable_val (Rg.stable_val (Rg.stable_val (Rg.stable_val (Rg.stable_val (Rg.stable_made (Rg.stable_mapMade (Rg.stable_nil))))))))))))))
  case hchain =>
    intro vs
    -- 0: slot 67 := Op.move t0
    refine Rg.Chain.pure rfl (fun w => by go_simp; (try go_ints); with_reducible rfl) ?_
    simp only [Act.put, List.setIfInBounds_toArray, List.set_cons_succ, List.set_cons_zero]
    -- 1: slot 68 := Op.nilCheck t67
    refine Rg.Chain.pure rfl (fun w => by go_simp; (try go_ints); with_reducible rfl) ?_
    simp only [Act.put, List.setIfInBounds_toArray, List.set_cons_succ, List.set_cons_zero]
    -- 2: slot 69 := Op.fieldAddr 62 t68 1
    refine Rg.Chain.pure rfl (fun w => by go_simp; (try go_ints); with_reducible rfl) ?_
    simp only [Act.put, List.setIfInBounds_toArray, List.set_cons_succ, List.set_cons_zero]
    -- 3: slot 70 := Op.load 59 t69
    refine Rg.Chain.read rfl (fun wx hs => by obtain ⟨q0, q1, q2, q3, q4⟩ := hS wx hs; go_simp; with_reducible rfl) ?_
    simp only [Act.put, List.setIfInBounds_toArray, List.set_cons_succ, List.set_cons_zero]
    -- 4: slot 71 := Op.fieldAddr 33 t4 1
    refine Rg.Chain.pure rfl (fun w => by go_simp; (try go_ints); with_reducible rfl) ?_
    simp only [Act.put, List.setIfInBounds_toArray, List.set_cons_succ, List.set_cons_zero]
    -- 5: slot 72 := Op.load 3 t71
    refine Rg.Chain.read rfl (fun wx hs => by obtain ⟨q0, q1, q2, q3, q4⟩ := hS wx hs; go_simp; with_reducible rfl) ?_
    simp only [Act.put, List.setIfInBounds_toArray, List.set_cons_succ, List.set_cons_zero]
    -- 6: slot 73 := Op.move t0
    refine Rg.Chain.pure rfl (fun w => by go_simp; (try go_ints); with_reducible rfl) ?_
    simp only [Act.put, List.setIfInBounds_toArray, List.set_cons_succ, List.set_cons_zero]
    -- 7: slot 74 := Op.nilCheck t73
    refine Rg.Chain.pure rfl (fun w => by go_simp; (try go_ints); with_reducible rfl) ?_
    simp only [Act.put, List.setIfInBounds_toArray, List.set_cons_succ, List.set_cons_zero]
    -- 8: slot 75 := Op.fieldAddr 62 t74 0
    refine Rg.Chain.pure rfl (fun w => by go_simp; (try go_ints); with_reducible rfl) ?_
    simp only [Act.put, List.setIfInBounds_toArray, List.set_cons_succ, List.set_cons_zero]
    -- 9: slot 76 := Op.load 34 t75
    refine Rg.Chain.read rfl (fun wx hs => by obtain ⟨q0, q1, q2, q3, q4⟩ := hS wx hs; go_simp; with_reducible rfl) ?_
    simp only [Act.put, List.setIfInBounds_toArray, List.set_cons_succ, List.set_cons_zero]
    -- 10: slot 77 := Op.call ( builtin len, args := #[t76], argTypes := #[34] )
    refine Rg.Chain.pure rfl (fun w => by go_simp; (try go_ints); with_reducible rfl) ?_
    simp only [Act.put, List.setIfInBounds_toArray, List.set_cons_succ, List.set_cons_zero]
    -- 11: slot 78 := Op.build 112 #[(0, t77), (1, const (1:i64))]
    refine Rg.Chain.pure rfl (fun w => by go_simp; (try go_ints); with_reducible rfl) ?_
    simp only [Act.put, List.setIfInBounds_toArray, List.set_cons_succ, List.set_cons_zero]
    -- 12: slot 79 := Op.box 112 t78
    refine Rg.Chain.new ?_ ?_ rfl (fun w => ?_) (fun w => ?_) ?_
    rotate_left 2
    · go_simp; (try go_ints); (first | with_reducible rfl | (constructor <;> with_reducible rfl))
    · exact ⟨w.heap.size, rfl, heap_alloc_new w _, fun _ => Iff.rfl⟩
    simp only [Act.put, List.setIfInBounds_toArray, List.set_cons_succ, List.set_cons_zero]
    -- 13: slot none := Op.mapUpdate 59 t70 t72 t79
    refine Rg.Chain.mapMade 12 _ _ _ rfl rfl rfl rfl Tryd.underlying59 rfl em (by unfold maxLen; omega) hi ⟨rfl, rfl⟩ rfl (by decide) (Rg.only 13 12 (by decide)) (by decide) (by rintro j g ⟨rfl, _⟩; rfl) rfl ?_
    simp only [Act.put]
    exact Rg.Chain.nil
  case hown => rintro j k ⟨_, rfl⟩; exact em.lt
  case hdis => rintro i j k ⟨rfl, _⟩ ⟨rfl, _⟩; rfl
  case hend =>
    intro vs F w3 hE
    have f13 := hE.fact 13 _ (Rg.kept 13 (by decide)) rfl
    obtain ⟨pb2, em3, ep3, hpb, _⟩ := f13
    have hst : Rg.Step (fun k => k = mb) u w3 := hE.step.mono (fun k _ hk => by obtain ⟨_, _, h⟩ := hk; exact h)
    have eb3 : w3.heap[rb]? = some (readObj (.slice (some ⟨g, 0, none⟩) m cap) mb (.slice vfa kf vfc)) := (hst.block rb (box_lt eb) hrm).trans eb
    have er3 : w3.heap[w.heap.size]? = some (.cells #[.int .i64 xt, .int .i64 xi, .string (bs xc), .int .i64 xp] 33) := (hst.block _ (box_lt er) hRm).trans er
    have eo3 : w3.ownsRow B 40 5 (.slice (some ⟨g, 0, none⟩) m cap) m xs := own_map eo em.obj.choose_spec.choose_spec hst
    have ef3 : w3.ownsRow B 3 1 (.slice vfa kf vfc) kf ys := own_map ef em.obj.choose_spec.choose_spec hst
    clear hE hS eb er eo ef
    simp only [Rg.finalAct, Rg.slot_val, Rg.slot_any, Act.put, List.setIfInBounds_toArray, List.set_cons_succ, List.set_cons_zero]
    generalize vs 12 = v12
    generalize vs 13 = v13
    go_wp2_with fail
    have hst8 := hst
    clear hst
    have o3 : ∃ cur, (Value.slice (some ⟨g, 0, none⟩) m cap).ownBlock = none ∨ ∃ g, (Value.slice (some ⟨g, 0, none⟩) m cap).ownBlock = some g ∧ w3.heap[g]? = some (.cells cur 40 (0, 0)) := by
      cases hv : (Value.slice (some ⟨g, 0, none⟩) m cap).ownBlock with
      | none => exact ⟨#[], .inl rfl⟩
      | some g => obtain ⟨cur, hc⟩ := own_obj eo3 hv; exact ⟨cur, .inr ⟨g, rfl, hc⟩⟩
    have hvne : ∀ k, (Value.slice (some ⟨g, 0, none⟩) m cap).ownBlock = some k → k ≠ rb ∧ k ≠ w.heap.size ∧ (Value.slice vfa kf vfc).ownBlock ≠ some k := by
      intro k hk
      obtain ⟨cur, hc⟩ := own_obj eo3 hk
      refine ⟨cells_ne hc eb3 (by decide), cells_ne hc er3 (by decide), fun h => ?_⟩
      obtain ⟨cur2, hc2⟩ := own_obj ef3 h
      exact cells_ne hc hc2 (by decide) rfl
    have hfne : ∀ k, (Value.slice vfa kf vfc).ownBlock = some k → k ≠ rb ∧ k ≠ w.heap.size := by
      intro k hk
      obtain ⟨cur, hc⟩ := own_obj ef3 hk
      exact ⟨cells_ne hc eb3 (by decide), cells_ne hc er3 (by decide)⟩
    have zr3 := box_lt er3
    have hS : ∀ wx, Rg.Step (fun k => ∃ j, (j = 5 ∧ (Value.slice (some ⟨g, 0, none⟩) m cap).ownBlock = some k) ∨ (j = 14 ∧ (Value.slice vfa kf vfc).ownBlock = some k) ∨ (j = 20 ∧ k = rb)) w3 wx → wx.cell? ⟨w.heap.size, 1, none⟩ = some (.int .i64 xi) ∧ w.heap.size < wx.heap.size := by
      intro wx hs
      have h2 := (hs.block w.heap.size zr3 (by rintro ⟨_, ⟨_, h⟩ | ⟨_, h⟩ | ⟨_, h⟩⟩; exact (hvne _ h).2.1 rfl; exact (hfne _ h).2 rfl; exact hrR h.symm)).trans er3
      exact ⟨box_cells h2 1, box_lt h2⟩
    clear o3
    refine Rg.region1 102 [.val ?_, .val ?_, .val ?_, .val ?_, .val ?_, .any (Rg.Row 40 5 m xs), .val ?_, .val ?_, .val ?_, .any (Rg.Row 40 5 1 [.int .i64 xi, .slice none 0 0, .string (bs []), .bool false, .bool false]), .any (Rg.Row 40 5 (m + 1) (xs ++ [.int .i64 xi, .slice none 0 0, .string (bs []), .bool false, .bool false])), .val ?_, .val ?_, .val ?_, .any (Rg.Row 3 1 kf ys), .val ?_, .any (Rg.Row 3 1 1 [.int .i64 fr]), .any (Rg.Row 3 1 (kf + 1) (ys ++ [.int .i64 fr])), .val ?_, .val ?_, .any (Rg.BoxRow rb (fun v => .cells #[v, .map (some mb), .slice vfa kf vfc] 62) 40 5 (m + 1) (xs ++ [.int .i64 xi, .slice none 0 0, .string (bs []), .bool false, .bool false])), .val ?_, .val ?_, .any (Rg.BoxRow2 rb (fun v v2 => .cells #[v, .map (some mb), v2] 62) 40 5 (m + 1) (xs ++ [.int .i64 xi, .slice none 0 0, .string (bs []), .bool false, .bool false]) 3 1 (kf + 1) (ys ++ [.int .i64 fr]))] [[], [], [], [], [], [], [], [], [], [], [5], [], [], [], [], [], [], [14], [], [], [10], [], [], [17, 20]] (fun j k => (j = 5 ∧ (Value.slice (some ⟨g, 0, none⟩) m cap).ownBlock = some k) ∨ (j = 14 ∧ (Value.slice vfa kf vfc).ownBlock = some k) ∨ (j = 20 ∧ k = rb)) (by kernel_rfl) (by decide +kernel) (by simp) rfl (by simp) ?hstab ?hown ?hdis ?hchain ?hend
    case hstab => exact Rg.stable_val (Rg.stable_val (Rg.stable_val (Rg.stable_val (Rg.stable_val (Rg.stable_row (Rg.stable_val (Rg.stable_val (Rg.stable_val (Rg.stable_row (Rg.stable_row (Rg.stable_val (Rg.stable_val (Rg.stable_val (Rg.stable_row (Rg.stable_val (Rg.stable_row (Rg.stable_row (Rg.stable_val (Rg.stable_val (Rg.stable_boxRow (Rg.stable_val (Rg.stable_val (Rg.stable_boxRow2 (Rg.stable_nil))))))))))))))))))))))))
    case hchain =>
      intro vs
      -- 0: slot 80 := Op.move t0
      refine Rg.Chain.pure rfl (fun w => by go_simp; (try go_ints); with_reducible rfl) ?_
      simp only [Act.put, List.setIfInBounds_toArray, List.set_cons_succ, List.set_cons_zero]
      -- 1: slot 81 := Op.move t0
      refine Rg.Chain.pure rfl (fun w => by go_simp; (try go_ints); with_reducible rfl) ?_
      simp only [Act.put, List.setIfInBounds_toArray, List.set_cons_succ, List.set_cons_zero]
      -- 2: slot 82 := Op.move t0
      refine Rg.Chain.pure rfl (fun w => by go_simp; (try go_ints); with_reducible rfl) ?_
      simp only [Act.put, List.setIfInBounds_toArray, List.set_cons_succ, List.set_cons_zero]
      -- 3: slot 83 := Op.nilCheck t82
      refine Rg.Chain.pure rfl (fun w => by go_simp; (try go_ints); with_reducible rfl) ?_
      simp only [Act.put, List.setIfInBounds_toArray, List.set_cons_succ, List.set_cons_zero]
      -- 4: slot 84 := Op.fieldAddr 62 t83 0
      refine Rg.Chain.pure rfl (fun w => by go_simp; (try go_ints); with_reducible rfl) ?_
      simp only [Act.put, List.setIfInBounds_toArray, List.set_cons_succ, List.set_cons_zero]
      -- 5: slot 85 := Op.load 34 t84
      refine Rg.Chain.startOld 20 _ (Rg.ownsRow_zero eo3) (fun k hk => .inl ⟨rfl, hk⟩) eb3 (.inr (.inr ⟨rfl, rfl⟩)) rfl (by decide) rfl (fun wx hs hx => by have q := box_cells hx 0; have z := box_lt hx; go_simp; try with_reducible rfl) ?_
      simp only [Act.put, List.setIfInBounds_toArray, List.set_cons_succ, List.set_cons_zero]
      -- 6: slot 86 := Op.fieldAddr 33 t4 1
      refine Rg.Chain.pure rfl (fun w => by go_simp; (try go_ints); with_reducible rfl) ?_
      simp only [Act.put, List.setIfInBounds_toArray, List.set_cons_succ, List.set_cons_zero]
      -- 7: slot 87 := Op.load 3 t86
      refine Rg.Chain.read rfl (fun wx hs => by obtain ⟨q0, q1⟩ := hS wx hs; go_simp; with_reducible rfl) ?_
      simp only [Act.put, List.setIfInBounds_toArray, List.set_cons_succ, List.set_cons_zero]
      -- 8: slot 88 := Op.build 40 #[(0, t87)]
      refine Rg.Chain.pure rfl (fun w => by go_simp; (try go_ints); with_reducible rfl) ?_
      simp only [Act.put, List.setIfInBounds_toArray, List.set_cons_succ, List.set_cons_zero]
      -- 9: slot 89 := Op.buildSlice 34 1 #[(0, t88)]
      refine Rg.Chain.new ?_ ?_ rfl (fun w => ?_) (fun w => ?_) ?_
      rotate_left 2
      · go_simp; (try go_ints); (first | with_reducible rfl | (constructor <;> with_reducible rfl))
      · exact Rg.row_new w 40 5 1 #[.int .i64 xi, .slice none 0 0, .string (bs []), .bool false, .bool false] rfl (by simp [maxLen])
      simp only [Act.put, List.setIfInBounds_toArray, List.set_cons_succ, List.set_cons_zero]
      -- 10: slot 90 := Op.call ( builtin append, args := #[t85, t89], argTypes := #[34, 34] )
      obtain ⟨ti, hti, hzz, hsz, hby⟩ := inf_snt
      refine Rg.Chain.append 5 9 rfl 34 40 _ _ ti _ _ _ rfl rfl rfl (Tryd.underlying34) hti hzz hsz hby rfl (by decide) rfl rfl (by decide) (by decide) (Rg.only 10 5 (by decide)) (Rg.only 10 9 (by decide)) (by decide) (by intro y hy; simp at hy; rcases hy with rfl | rfl | rfl | rfl | rfl <;> rfl) (by unfold maxLen; omega) (by omega) ?_
      simp only [Act.put, List.setIfInBounds_toArray, List.set_cons_succ, List.set_cons_zero]
      -- 11: slot 91 := Op.move t0
      refine Rg.Chain.pure rfl (fun w => by go_simp; (try go_ints); with_reducible rfl) ?_
      simp only [Act.put, List.setIfInBounds_toArray, List.set_cons_succ, List.set_cons_zero]
      -- 12: slot 92 := Op.nilCheck t91
      refine Rg.Chain.pure rfl (fun w => by go_simp; (try go_ints); with_reducible rfl) ?_
      simp only [Act.put, List.setIfInBounds_toArray, List.set_cons_succ, List.set_cons_zero]
      -- 13: slot 93 := Op.fieldAddr 62 t92 2
      refine Rg.Chain.pure rfl (fun w => by go_simp; (try go_ints); with_reducible rfl) ?_
      simp only [Act.put, List.setIfInBounds_toArray, List.set_cons_succ, List.set_cons_zero]
      -- 14: slot 94 := Op.load 60 t93
      refine Rg.Chain.startOld 20 _ (Rg.ownsRow_zero ef3) (fun k hk => .inr (.inl ⟨rfl, hk⟩)) eb3 (.inr (.inr ⟨rfl, rfl⟩)) rfl (by decide) rfl (fun wx hs hx => by have q := box_cells hx 2; have z := box_lt hx; go_simp; try with_reducible rfl) ?_
      simp only [Act.put, List.setIfInBounds_toArray, List.set_cons_succ, List.set_cons_zero]
      -- 15: slot 95 := Op.move t2
      refine Rg.Chain.pure rfl (fun w => by go_simp; (try go_ints); with_reducible rfl) ?_
      simp only [Act.put, List.setIfInBounds_toArray, List.set_cons_succ, List.set_cons_zero]
      -- 16: slot 96 := Op.buildSlice 60 1 #[(0, t95)]
      refine Rg.Chain.new ?_ ?_ rfl (fun w => ?_) (fun w => ?_) ?_
      rotate_left 2
      · go_simp; (try go_ints); (first | with_reducible rfl | (constructor <;> with_reducible rfl))
      · exact Rg.row_new w 3 1 1 #[.int .i64 fr] rfl (by simp [maxLen])
      simp only [Act.put, List.setIfInBounds_toArray, List.set_cons_succ, List.set_cons_zero]
      -- 17: slot 97 := Op.call ( builtin append, args := #[t94, t96], argTypes := #[60, 60] )
      obtain ⟨ti, hti, hzz, hsz, hby⟩ := inf_int
      refine Rg.Chain.append 14 16 rfl 60 3 _ _ ti _ _ _ rfl rfl rfl (Tryd.underlying60) hti hzz hsz hby rfl (by decide) rfl rfl (by decide) (by decide) (Rg.only 17 14 (by decide)) (Rg.only 17 16 (by decide)) (by decide) (by intro y hy; simp at hy; subst hy; rfl) (by unfold maxLen; omega) (by omega) ?_
      simp only [Act.put, List.setIfInBounds_toArray, List.set_cons_succ, List.set_cons_zero]
      -- 18: slot 98 := Op.nilCheck t80
      refine Rg.Chain.pure rfl (fun w => by go_simp; (try go_ints); with_reducible rfl) ?_
      simp only [Act.put, List.setIfInBounds_toArray, List.set_cons_succ, List.set_cons_zero]
      -- 19: slot 99 := Op.fieldAddr 62 t98 0
      refine Rg.Chain.pure rfl (fun w => by go_simp; (try go_ints); with_reducible rfl) ?_
      simp only [Act.put, List.setIfInBounds_toArray, List.set_cons_succ, List.set_cons_zero]
      -- 20: slot none := Op.store 34 t99 t90
      refine Rg.Chain.storeRow 10 rfl (by decide) (Rg.only 20 10 (by decide)) (by decide) eb3 (.inr (.inr ⟨rfl, rfl⟩)) rfl (fun wx x1 cap1 hv1 hx => by have q := box_cells hx 0; have fz := box_free hx 0; have z := box_lt hx; exact ⟨wx.setCell ⟨rb, 0, none⟩ (.slice x1 (m + 1) cap1), by simp only [hv1]; go_simp, set_box hx _, Rg.step_set _ _ _ _⟩) ?_
      simp only [Act.put]
      -- 21: slot 100 := Op.nilCheck t81
      refine Rg.Chain.pure rfl (fun w => by go_simp; (try go_ints); with_reducible rfl) ?_
      simp only [Act.put, List.setIfInBounds_toArray, List.set_cons_succ, List.set_cons_zero]
      -- 22: slot 101 := Op.fieldAddr 62 t100 2
      refine Rg.Chain.pure rfl (fun w => by go_simp; (try go_ints); with_reducible rfl) ?_
      simp only [Act.put, List.setIfInBounds_toArray, List.set_cons_succ, List.set_cons_zero]
      -- 23: slot none := Op.store 60 t101 t97
      refine Rg.Chain.storeRow2 20 17 rfl (by decide) (Rg.only 23 17 (by decide)) (by decide) rfl (by decide) (Rg.only 23 20 (by decide)) (by decide) (by decide) rfl (fun wx u1 x1 cap1 hv1 hx => by have q := box_cells hx 2; have fz := box_free hx 2; have z := box_lt hx; exact ⟨wx.setCell ⟨rb, 2, none⟩ (.slice x1 (kf + 1) cap1), by simp only [hv1]; go_simp, set_box hx _, Rg.step_set _ _ _ _⟩) ?_
      simp only [Act.put]
      exact Rg.Chain.nil
    case hown =>
      rintro j k (⟨_, h⟩ | ⟨_, h⟩ | ⟨_, rfl⟩)
      · exact (eo3.lt k h).2
      · exact (ef3.lt k h).2
      · exact box_lt eb3
    case hdis =>
      rintro i j k (⟨rfl, h⟩ | ⟨rfl, h⟩ | ⟨rfl, h⟩) (⟨rfl, h'⟩ | ⟨rfl, h'⟩ | ⟨rfl, h'⟩)
      · rfl
      · exact absurd h' (hvne k h).2.2
      · exact absurd h' (hvne k h).1
      · exact absurd h (hvne k h').2.2
      · rfl
      · exact absurd h' (hfne k h).1
      · exact absurd h (hvne k h').1
      · exact absurd h (hfne k h').1
      · rfl
    case hend =>
      intro vs F w4 hE
      have f23 := hE.fact 23 _ (Rg.kept 23 (by decide)) rfl
      have hw3 : w.heap.size ≤ w3.heap.size := Nat.le_trans Wu.size hst8.size
      have hB : ∀ k, F 23 k → B ≤ k := by
        intro k hk
        obtain ⟨_, h⟩ := hE.own 23 _ k (Rg.kept 23 (by decide)) rfl hk
        rcases Nat.lt_or_ge k w3.heap.size with hl | hge
        · have : ∃ j, (j = 5 ∧ (Value.slice (some ⟨g, 0, none⟩) m cap).ownBlock = some k) ∨ (j = 14 ∧ (Value.slice vfa kf vfc).ownBlock = some k) ∨ (j = 20 ∧ k = rb) := by
            by_cases hx : ∃ j, (j = 5 ∧ (Value.slice (some ⟨g, 0, none⟩) m cap).ownBlock = some k) ∨ (j = 14 ∧ (Value.slice vfa kf vfc).ownBlock = some k) ∨ (j = 20 ∧ k = rb)
            · exact hx
            · exact absurd ⟨hl, fun j hj => hx ⟨j, hj⟩⟩ h
          obtain ⟨j, ⟨_, h⟩ | ⟨_, h⟩ | ⟨_, h⟩⟩ := this
          · exact (eo3.lt k h).1
          · exact (ef3.lt k h).1
          · rw [h]; exact hrbB
        · omega
      obtain ⟨v5, v6, eb4, eo4, ef4, hF⟩ := f23
      have hstep : Rg.Step (fun k => k = rb ∨ k = mb ∨ (Value.slice (some ⟨g, 0, none⟩) m cap).ownBlock = some k ∨ (Value.slice vfa kf vfc).ownBlock = some k) w w4 :=
        ((Rg.below_step Wu rfl).trans (hst8.mono fun k _ hk => .inr (.inl hk))).trans (hE.step.mono fun k _ hk => by
          obtain ⟨j, ⟨_, h⟩ | ⟨_, h⟩ | ⟨_, h⟩⟩ := hk
          · exact .inr (.inr (.inl h))
          · exact .inr (.inr (.inr h))
          · exact .inl h)
      have em4 : PMap w4 mb (n + 1) (fun x => if x = xi then some pb2 else f x) := by
        obtain ⟨es2, cl2, hm2⟩ := em3.obj
        refine em3.step hE.step ?_
        rintro ⟨j, ⟨_, h⟩ | ⟨_, h⟩ | ⟨_, h⟩⟩
        · obtain ⟨cur, hc⟩ := own_obj eo3 h; exact cells_map_ne hc hm2 rfl
        · obtain ⟨cur, hc⟩ := own_obj ef3 h; exact cells_map_ne hc hm2 rfl
        · exact hrm h.symm
      have ep4 : w4.heap[pb2]? = some (placeObj ⟨m, 1, []⟩) := by
        refine (hE.step.block pb2 (box_lt ep3) ?_).trans ep3
        rintro ⟨j, ⟨_, h⟩ | ⟨_, h⟩ | ⟨_, h⟩⟩
        · obtain ⟨cur, hc⟩ := own_obj eo3 h; exact cells_ne hc ep3 (by decide) rfl
        · obtain ⟨cur, hc⟩ := own_obj ef3 h; exact cells_ne hc ep3 (by decide) rfl
        · rw [h] at ep3; exact cells_ne ep3 eb3 (by decide) rfl
      have eo5 := own_up eo4 (fun k hk => hB k ((hF k).2 (.inr (.inl hk))))
      have ef5 := own_up ef4 (fun k hk => hB k ((hF k).2 (.inr (.inr hk))))
      have hpw : w.heap.size ≤ pb2 := Nat.le_trans Wu.size hpb
      clear hE hF hB eo4 ef4 hS hvne hfne eb3 er3 eo3 ef3 em3 ep3
      simp only [Rg.finalAct, Rg.slot_val, Rg.slot_any, Act.put, List.setIfInBounds_toArray, List.set_cons_succ, List.set_cons_zero]
      generalize vs 5 = x5
      generalize vs 9 = x9
      generalize vs 10 = x10
      generalize vs 14 = x14
      generalize vs 16 = x16
      generalize vs 17 = x17
      generalize vs 20 = x20
      generalize vs 23 = x23
      go_wp2_with fail
      go_ret
      exact ⟨rfl, v5, v6, eb4, eo5, ef5, pb2, em4, ep4, hpw, hstep⟩
end Go.Proofs.YtniflggmfegnfaaDoor

/- What a judge makes of a record. Conditions: the reading in memory; the package errors' variable; short texts. -/
namespace Go.Proofs.YtniflggmfegnfaaDoor
open Go.RowKit

theorem own_types {B : Nat} {w w' : World} {e : TypeId} {size n : Nat} {v : Value} {xs : List Value} {M : Nat → Prop} (h : w.ownsRow B e size v n xs) (hs : Rg.Step M w w') (hM : ∀ g cur, w.heap[g]? = some (.cells cur e (0, 0)) → ¬ M g) : w'.ownsRow B e size v n xs :=
  Rg.ownsRow_step h hs (fun k hk => by obtain ⟨cur, hc⟩ := own_obj h hk; exact hM k cur hc)

def JS.beginsT (r : JS) (x : Rec) (f : Int) : JS × Int := match r.ids x.id with
  | none => r.begins x f
  | some p => if (r.l.getD p.pos default).whole = false ∧ (r.l.getD p.pos default).cut = false then (r, 18) else r.begins x f

theorem RdHeap.opened {B rb : Nat} {r : JS} {vl : Value} {mb : Nat} {vf v5 v6 : Value} {rows : List (Snt × Value)} {f : Int → Option Nat} {x : Rec} {fr : Int} {w w' : World} {pb2 : Nat} (h : RdHeap B w r vl mb vf rows f) (hb : w.heap[rb]? = some (readObj vl mb vf)) (hB : B ≤ w.heap.size)
    (h5 : w'.ownsRow B 40 5 v5 (rows.length + 1) (sntCells rows ++ [.int .i64 x.id, .slice none 0 0, .string (bs []), .bool false, .bool false])) (h6 : w'.ownsRow B 3 1 v6 (r.frm.length + 1) (intCells r.frm ++ [.int .i64 fr]))
    (hm : PMap w' mb (r.l.length + 1) (fun y => if y = x.id then some pb2 else f y)) (hp : w'.heap[pb2]? = some (placeObj ⟨rows.length, 1, []⟩)) (hpn : w.heap.size ≤ pb2)
    (hst : Rg.Step (fun k => k = rb ∨ k = mb ∨ vl.ownBlock = some k ∨ vf.ownBlock = some k) w w') :
    RdHeap B w' ⟨r.l ++ [⟨x.id, [], [], false, false⟩], r.frm ++ [fr], fun k => if k = x.id then some ⟨r.l.length, 1, []⟩ else r.ids k⟩ v5 mb v6 (rows ++ [(⟨x.id, [], [], false, false⟩, .slice none 0 0)]) (fun y => if y = x.id then some pb2 else f y) := by
  have hlr : r.l.length = rows.length := by rw [h.l]; simp
  obtain ⟨es, cl, hmo⟩ := h.map.obj
  have hlt : ∀ i b, (Lit.int .i64 i).wf = true → f i = some b → b < w.heap.size := by
    intro i b hi hb'
    cases hp : r.ids i with
    | none => rw [h.lack i hi hp] at hb'; cases hb'
    | some p =>
      obtain ⟨b2, h1, h2, h3⟩ := h.place i p hi hp
      rw [h1] at hb'
      cases hb'
      exact box_lt h3
  refine ⟨by simp [h.l], ?_, ?_, ?_, by simpa using hm, h.low, ?_, ?_, ?_⟩
  · simpa [sntCells, sntF] using h5
  · simpa [intCells] using h6
  · intro q hq
    rcases List.mem_append.1 hq with hq | hq
    · refine own_types (h.pairs q hq) hst ?_
      rintro g cur hc (hx | hx | hx | hx)
      · rw [hx] at hc; exact cells_ne hc hb (by decide) rfl
      · rw [hx] at hc; exact cells_map_ne hc hmo rfl
      · obtain ⟨cur2, hc2⟩ := own_obj h.row hx; exact cells_ne hc hc2 (by decide) rfl
      · obtain ⟨cur2, hc2⟩ := own_obj h.frm hx; exact cells_ne hc hc2 (by decide) rfl
    · simp at hq
      subst hq
      exact World.ownsRow_nil _ _ _ _
  · intro i p hi hip
    simp only at hip ⊢
    split at hip
    next e =>
      cases hip
      rw [if_pos e]
      exact ⟨pb2, rfl, Nat.le_trans hB hpn, by rw [hlr]; exact hp⟩
    next e =>
      rw [if_neg e]
      obtain ⟨b, h1, h2, h3⟩ := h.place i p hi hip
      refine ⟨b, h1, h2, ?_⟩
      rw [hst.block b (box_lt h3)]
      · exact h3
      rintro (hx | hx | hx | hx)
      · rw [hx] at h3; exact cells_ne h3 hb (by decide) rfl
      · rw [hx] at h3; exact cells_map_ne h3 hmo rfl
      · obtain ⟨cur2, hc2⟩ := own_obj h.row hx; exact cells_ne h3 hc2 (by decide) rfl
      · obtain ⟨cur2, hc2⟩ := own_obj h.frm hx; exact cells_ne h3 hc2 (by decide) rfl
  · intro i hi hip
    simp only at hip ⊢
    split at hip
    · cases hip
    next e => rw [if_neg e]; exact h.lack i hi hip
  · intro i j b hi hj h1 h2
    try simp only at h1 h2
    by_cases e1 : i = x.id
    · by_cases e2 : j = x.id
      · rw [e1, e2]
      · rw [if_pos e1] at h1
        rw [if_neg e2] at h2
        cases h1
        have := hlt j pb2 hj h2
        omega
    · by_cases e2 : j = x.id
      · rw [if_neg e1] at h1
        rw [if_pos e2] at h2
        cases h2
        have := hlt i pb2 hi h1
        omega
      · rw [if_neg e1] at h1
        rw [if_neg e2] at h2
        exact h.apart i j b hi hj h1 h2

theorem step_low {B : Nat} {w w' : World} {M : Nat → Prop} (h : Rg.Step M w w') (hB : B ≤ w.heap.size) (hM : ∀ k, M k → B ≤ k) : Below B w w' := ⟨h.os, h.tape, h.output, h.size, fun k hk => h.block k (by omega) (fun hm => by have := hM k hm; omega)⟩

theorem jbegins_any (B rb : Nat) (r : JS) (x : Rec) (fr : Int) (w : World) (h : RdAt B w rb r) (hok : r.Ok) (hi : (Lit.int .i64 x.id).wf = true) (hc : x.c.length ≤ 1000000000) (hn : r.l.length ≤ 1000000000) :
    Calls Tryd.prog 29 #[.pointer (some ⟨rb, 0, none⟩), x.v, .int .i64 fr] w fun e w' => e = .returned (errV (r.beginsT x fr).2) ∧ RdAt B w' rb (r.beginsT x fr).1 ∧ Below B w w' ∧ Keeps w w' := by
  have hR := h
  obtain ⟨hrb, vl, mb, vf, rows, f, hb, h⟩ := h
  have hBs : B ≤ w.heap.size := Nat.le_trans hrb (Nat.le_of_lt (box_lt hb))
  have hlr : r.l.length = rows.length := by rw [h.l]; simp
  obtain ⟨va, cap, rfl⟩ := own_slice h.row
  have hbad : r.beginsT x fr = (r, 18) → ∀ (e : Ending) (w' : World), (e = .returned (eV 18) ∧ Below w.heap.size w w') → e = .returned (errV (r.beginsT x fr).2) ∧ RdAt B w' rb (r.beginsT x fr).1 ∧ Below B w w' ∧ Keeps w w' := by
    rintro hgo e w' ⟨rfl, hbw⟩
    rw [hgo]
    exact ⟨rfl, hR.keeps hbw, below_low hbw hBs, keeps_below hbw⟩
  have hgood : ∀ (e : Ending) (w' : World), (rbC x = 0 ∧ rbN x = 1 ∧ rbK x = true) → r.beginsT x fr = r.begins x fr →
      (e = .returned .nilIface ∧ ∃ v5 v6, w'.heap[rb]? = some (readObj v5 mb v6) ∧ w'.ownsRow B 40 5 v5 (rows.length + 1) (sntCells rows ++ [.int .i64 x.id, .slice none 0 0, .string (bs []), .bool false, .bool false]) ∧ w'.ownsRow B 3 1 v6 (r.frm.length + 1) (intCells r.frm ++ [.int .i64 fr]) ∧ ∃ pb2, PMap w' mb (r.l.length + 1) (fun y => if y = x.id then some pb2 else f y) ∧ w'.heap[pb2]? = some (placeObj ⟨rows.length, 1, []⟩) ∧ w.heap.size ≤ pb2 ∧ Rg.Step (fun k => k = rb ∨ k = mb ∨ (Value.slice va rows.length cap).ownBlock = some k ∨ vf.ownBlock = some k) w w') →
      e = .returned (errV (r.beginsT x fr).2) ∧ RdAt B w' rb (r.beginsT x fr).1 ∧ Below B w w' ∧ Keeps w w' := by
    rintro e w' hg heq ⟨rfl, v5, v6, a1, a2, a3, pb2, a4, a5, a6, a7⟩
    rw [heq]
    unfold JS.begins
    rw [if_pos hg]
    refine ⟨rfl, ⟨hrb, v5, mb, v6, _, _, a1, h.opened hb hBs a2 a3 a4 a5 a6 a7⟩, step_low a7 hBs ?_, ?_⟩
    rotate_left
    · intro g cur y hc
      rw [a7.block g (box_lt hc)]
      · exact hc
      obtain ⟨es, cl, hmo⟩ := h.map.obj
      rintro (hx | hx | hx | hx)
      · rw [hx] at hc; exact cells_ne hc hb (by decide) rfl
      · rw [hx] at hc; exact cells_map_ne hc hmo rfl
      · obtain ⟨cur2, hc2⟩ := own_obj h.row hx; exact cells_ne hc hc2 (by decide) rfl
      · obtain ⟨cur2, hc2⟩ := own_obj h.frm hx; exact cells_ne hc hc2 (by decide) rfl
    rintro k (hk | hk | hk | hk)
    · rw [hk]; exact hrb
    · rw [hk]; exact h.low
    · exact (h.row.lt k hk).1
    · exact (h.frm.lt k hk).1
  have hno : r.beginsT x fr = r.begins x fr → ¬ (rbC x = 0 ∧ rbN x = 1 ∧ rbK x = true) → r.beginsT x fr = (r, 18) := by
    intro h1 h2
    rw [h1]
    unfold JS.begins
    rw [if_neg h2]
  have hn' : rows.length ≤ 1000000000 := by omega
  have hnf : r.frm.length ≤ 1000000000 := by rw [hok.1]; omega
  cases hp : r.ids x.id with
  | none =>
    have hf := h.lack x.id hi hp
    have he : r.beginsT x fr = r.begins x fr := by unfold JS.beginsT; rw [hp]
    rcases code_two x with hC | hC
    · by_cases hRl : rbN x = 1
      · by_cases hK : rbK x = true
        · exact (jbeg_new_ok rb mb r.l.length rows.length cap va vf f x fr w hb h.map hi hf hn' B r.frm.length _ _ h.row h.frm hnf (by omega) hrb (by omega) hC hRl hK).mono fun e w' => hgood e w' ⟨hC, hRl, hK⟩ he
        · exact (jbeg_new_keep rb mb r.l.length rows.length cap va vf f x fr w hb h.map hi hf hn' (by omega) hC hRl (by simpa using hK)).mono (hbad (hno he (fun h => hK h.2.2)))
      · exact (jbeg_new_role rb mb r.l.length rows.length cap va vf f x fr w hb h.map hi hf hn' (by omega) hC hRl).mono (hbad (hno he (fun h => hRl h.2.1)))
    · exact (jbeg_new_form rb mb r.l.length rows.length cap va vf f x fr w hb h.map hi hf hn' (by omega) hC).mono (hbad (hno he (fun h => by rw [hC] at h; exact absurd h.1 (by decide))))
  | some p =>
    obtain ⟨pb, hf, hpB, hpo⟩ := h.place x.id p hi hp
    have hpos := (hok.2 x.id p hp).1
    obtain ⟨q, hq⟩ : ∃ q, rows[p.pos]? = some q := ⟨_, List.getElem?_eq_getElem (by omega)⟩
    have hs : r.l.getD p.pos default = q.1 := by
      rw [h.l, List.getD_eq_getElem?_getD, List.getElem?_map, hq]
      rfl
    obtain ⟨g, cap', cur, hv, hgB, hgl, ho, s0, s1, s2, s3, s4⟩ := h.obj hq
    simp only [Value.slice.injEq, true_and] at hv
    obtain ⟨rfl, rfl⟩ := hv
    by_cases hw : q.1.whole = true
    · have he : r.beginsT x fr = r.begins x fr := by unfold JS.beginsT; rw [hp]; simp only; rw [hs, if_neg (by simp [hw])]
      rw [hw] at s3
      rcases code_two x with hC | hC
      · by_cases hRl : rbN x = 1
        · by_cases hK : rbK x = true
          · exact (jbeg_whole_ok rb mb r.l.length rows.length cap g p.pos pb p.far p.params cur vf f x fr w hb h.map hi hf hpo ho (by omega) s3 hn' B r.frm.length _ _ h.row h.frm hnf (by omega) hrb (by omega) hC hRl hK).mono fun e w' => hgood e w' ⟨hC, hRl, hK⟩ he
          · exact (jbeg_whole_keep rb mb r.l.length rows.length cap g p.pos pb p.far p.params cur vf f x fr w hb h.map hi hf hpo ho (by omega) s3 hn' (by omega) hC hRl (by simpa using hK)).mono (hbad (hno he (fun h => hK h.2.2)))
        · exact (jbeg_whole_role rb mb r.l.length rows.length cap g p.pos pb p.far p.params cur vf f x fr w hb h.map hi hf hpo ho (by omega) s3 hn' (by omega) hC hRl).mono (hbad (hno he (fun h => hRl h.2.1)))
      · exact (jbeg_whole_form rb mb r.l.length rows.length cap g p.pos pb p.far p.params cur vf f x fr w hb h.map hi hf hpo ho (by omega) s3 hn' (by omega) hC).mono (hbad (hno he (fun h => by rw [hC] at h; exact absurd h.1 (by decide))))
    · replace hw : q.1.whole = false := by simpa using hw
      rw [hw] at s3
      by_cases hcu : q.1.cut = true
      · have he : r.beginsT x fr = r.begins x fr := by unfold JS.beginsT; rw [hp]; simp only; rw [hs, if_neg (by simp [hcu])]
        rw [hcu] at s4
        rcases code_two x with hC | hC
        · by_cases hRl : rbN x = 1
          · by_cases hK : rbK x = true
            · exact (jbeg_cut_ok rb mb r.l.length rows.length cap g p.pos pb p.far p.params cur vf f x fr w hb h.map hi hf hpo ho (by omega) s3 s4 hn' B r.frm.length _ _ h.row h.frm hnf (by omega) hrb (by omega) hC hRl hK).mono fun e w' => hgood e w' ⟨hC, hRl, hK⟩ he
            · exact (jbeg_cut_keep rb mb r.l.length rows.length cap g p.pos pb p.far p.params cur vf f x fr w hb h.map hi hf hpo ho (by omega) s3 s4 hn' (by omega) hC hRl (by simpa using hK)).mono (hbad (hno he (fun h => hK h.2.2)))
          · exact (jbeg_cut_role rb mb r.l.length rows.length cap g p.pos pb p.far p.params cur vf f x fr w hb h.map hi hf hpo ho (by omega) s3 s4 hn' (by omega) hC hRl).mono (hbad (hno he (fun h => hRl h.2.1)))
        · exact (jbeg_cut_form rb mb r.l.length rows.length cap g p.pos pb p.far p.params cur vf f x fr w hb h.map hi hf hpo ho (by omega) s3 s4 hn' (by omega) hC).mono (hbad (hno he (fun h => by rw [hC] at h; exact absurd h.1 (by decide))))
      · replace hcu : q.1.cut = false := by simpa using hcu
        rw [hcu] at s4
        exact (jbeg_busy_any rb mb r.l.length rows.length cap g p.pos pb p.far p.params cur vf f x fr w hb h.map hi hf hpo ho (by omega) s3 s4 hn' (by omega)).mono (hbad (by unfold JS.beginsT; rw [hp]; simp only; rw [hs, if_pos ⟨hw, hcu⟩]))
end Go.Proofs.YtniflggmfegnfaaDoor

/- What a judge makes of a record, whatever it is. Conditions: the reading in memory; the package errors' variable; short texts. -/
namespace Go.Proofs.YtniflggmfegnfaaDoor
open Go.RowKit

/-- No text of the reading is longer than N, nor is the row. -/
def JS.Small (r : JS) (N : Nat) : Prop := r.l.length ≤ N ∧ (∀ k, k < r.l.length → (r.l.getD k default).body.length ≤ N) ∧ (∀ i p, r.ids i = some p → p.params.length ≤ N)
theorem small_empty : JS.empty.Small 0 := ⟨by simp [JS.empty], by simp [JS.empty], fun i p h => by cases h⟩
theorem JS.Small.more {r : JS} {N M : Nat} (h : r.Small N) (hM : N ≤ M) : r.Small M := ⟨by have := h.1; omega, fun k hk => Nat.le_trans (h.2.1 k hk) hM, fun i p hp => Nat.le_trans (h.2.2 i p hp) hM⟩
theorem goS_small (s : Snt) (far : Int) (params : Bs) (x : Rec) (N : Nat) (h1 : s.body.length ≤ N) (h2 : params.length ≤ N) : (goS s far params x).1.body.length ≤ N + x.c.length ∧ (goS s far params x).2.2.1.length ≤ N + x.c.length := by
  unfold goS
  split
  · exact ⟨by simp only; omega, by simp only; omega⟩
  split
  · exact ⟨by simp only; omega, by simp only; omega⟩
  split
  · refine ⟨by simp only; omega, by simp only [List.length_append]; omega⟩
  split
  · split
    · exact ⟨by simp only; omega, by simp only; omega⟩
    · exact ⟨by simp only; omega, by simp only; omega⟩
  split
  · split
    · exact ⟨by simp only [List.length_append]; omega, by simp only; omega⟩
    · exact ⟨by simp only [List.length_append]; omega, by simp only; omega⟩
  · exact ⟨by simp only; omega, by simp only; omega⟩
theorem small_take {r : JS} {N : Nat} (h : r.Small N) (hok : r.Ok) (x : Rec) (f : Int) : (r.take x f).1.Small (N + x.c.length + 1) := by
  have hb : (r.begins x f).1.Small (N + x.c.length + 1) := by
    unfold JS.begins
    split
    · refine ⟨by have := h.1; simp; omega, ?_, ?_⟩
      · intro k hk
        simp only at hk ⊢
        rw [getD_snoc]
        split
        · simp
        next e =>
          have := h.2.1 k (by simp at hk; omega)
          omega
      · intro i p hp
        simp only at hp
        split at hp
        · cases hp; simp
        · have := h.2.2 i p hp; omega
    · exact h.more (by omega)
  unfold JS.take
  split
  · exact h.more (by omega)
  split
  · split
    · exact hb
    · exact h.more (by omega)
  next p hp =>
    split
    · split
      · exact h.more (by omega)
      · exact hb
    unfold JS.goes
    split
    · have hpos := (hok.2 _ _ hp).1
      obtain ⟨g1, g2⟩ := goS_small (r.l.getD p.pos default) p.far p.params x N (h.2.1 _ hpos) (h.2.2 _ _ hp)
      refine ⟨by have := h.1; simp; omega, ?_, ?_⟩
      · intro k hk
        simp only [List.length_set] at hk ⊢
        rw [getD_set _ _ _ _ hpos]
        split
        · omega
        · have := h.2.1 k hk; omega
      · intro i q hq
        simp only at hq
        split at hq
        · cases hq; simp only; omega
        · have := h.2.2 i q hq; omega
    · exact h.more (by omega)

set_option maxRecDepth 100000 in
set_option maxHeartbeats 4000000 in
theorem jtakes_any (B rb N : Nat) (r : JS) (x : Rec) (fr : Int) (w : World) (h : RdAt B w rb r) (hok : r.Ok) (hs : r.Small N) (hN : N ≤ 1000000000) (hi : (Lit.int .i64 x.id).wf = true) (hc : x.c.length ≤ 1000000000) (hg : w.cell? ⟨0, 0, none⟩ = some errTypeV) :
    Calls Tryd.prog 25 #[.pointer (some ⟨rb, 0, none⟩), x.v, .int .i64 fr] w fun e w' => e = .returned (errV (r.take x fr).2) ∧ RdAt B w' rb (r.take x fr).1 ∧ Below B w w' ∧ Keeps w w' := by
  have hR := h
  obtain ⟨hrb, vl, mb, vf, rows, f, hb, h⟩ := h
  have hBs : B ≤ w.heap.size := Nat.le_trans hrb (Nat.le_of_lt (box_lt hb))
  have hg0 : 0 < w.heap.size := World.block_lt_of_cell? w _ hg
  have hm := h.map
  have hlk : ∀ p, r.ids x.id = some p → ∃ pb, f x.id = some pb := fun p hp => by obtain ⟨pb, h1, _⟩ := h.place x.id p hi hp; exact ⟨pb, h1⟩
  have hln := h.lack x.id hi
  have hkeep : ∀ w', Below w.heap.size w w' → RdAt B w' rb r := fun w' hb => hR.keeps hb
  have hgk : ∀ w', Below w.heap.size w w' → w'.cell? ⟨0, 0, none⟩ = some errTypeV := fun w' hb => by rw [hb.cell hg0]; exact hg
  have hheap : ∀ w', Below w.heap.size w w' → w'.heap[rb]? = some (readObj vl mb vf) ∧ RdHeap B w' r vl mb vf rows f := fun w' hbw => ⟨kept hb hbw, h.keeps hbw⟩
  have HK := Lib.hid hkeep
  have HGK := Lib.hid hgk
  have HH := Lib.hid hheap
  have hL : ∀ o n, (Instr.lookup 59 (.map (some mb)) (.int .i64 x.id) false).run Tryd.prog ((w.alloc o).drewN n) = .ok (ptrOf (f x.id)) ((w.alloc o).drewN n) := fun o n => (hm.kept (below_drewN (below_alloc w o) n)).look Tryd.underlying59 (zero_place _) hi
  have c1 := box_cells hb 1
  have zb := box_lt hb
  clear hkeep hgk hheap h hb hR hm hg
  have key : (x.id = 0 ∧ r.take x fr = (r, 18)) ∨ (x.id ≠ 0 ∧ f x.id = none ∧ x.t ≠ 1 ∧ r.take x fr = (r, 18)) ∨ (x.id ≠ 0 ∧ x.t = 1 ∧ r.take x fr = r.beginsT x fr) ∨ (∃ p pb, x.id ≠ 0 ∧ r.ids x.id = some p ∧ f x.id = some pb ∧ x.t ≠ 1 ∧ r.take x fr = r.goes x p) := by
    by_cases h0 : x.id = 0
    · exact .inl ⟨h0, by unfold JS.take; rw [if_pos h0]⟩
    by_cases ht : x.t = 1
    · refine .inr (.inr (.inl ⟨h0, ht, ?_⟩))
      unfold JS.take JS.beginsT
      rw [if_neg h0]
      cases r.ids x.id with
      | none => simp only; rw [if_pos ht]
      | some p => simp only; rw [if_pos ht]
    cases hp : r.ids x.id with
    | none => exact .inr (.inl ⟨h0, hln hp, ht, by unfold JS.take; rw [if_neg h0, hp]; simp only; rw [if_neg ht]⟩)
    | some p =>
      obtain ⟨pb, hf⟩ := hlk p hp
      exact .inr (.inr (.inr ⟨p, pb, h0, rfl, hf, ht, by unfold JS.take; rw [if_neg h0, hp]; simp only; rw [if_neg ht]⟩))
  clear hlk hln
  rcases key with ⟨h0, hk⟩ | ⟨h0, hf, ht, hk⟩ | ⟨h0, ht, hk⟩ | ⟨p, pb, h0, hp, hf, ht, hk⟩
  · rw [hk]
    obtain ⟨xt, xi, xc, xp⟩ := x
    simp only at *
    subst h0
    generalize ptrOf (f 0) = ptr at *
    clear hk
    go_enter Tryd.func25, Tryd.ntmps25
    go_wp2_with fail
    go_quiet (fail)
    go_wp2_with fail
    go_ret
    have W := below_drewN (below_alloc w (.cells #[.int .i64 xt, .int .i64 0, .string (bs xc), .int .i64 xp] 33)) nq
    exact ⟨rfl, HK.out _ W, below_low W hBs, keeps_below W⟩
  · rw [hk]
    rw [hf] at hL
    simp only [ptrOf] at hL
    obtain ⟨xt, xi, xc, xp⟩ := x
    simp only at *
    have q1 : (xi == 0) = false := by simpa using h0
    have q2 : (xt != 1) = true := by simpa using ht
    clear hk h0 ht
    go_enter Tryd.func25, Tryd.ntmps25
    go_wp2_with fail
    go_quiet (fail)
    go_wp2_with fail
    go_ret
    have W := below_drewN (below_alloc w (.cells #[.int .i64 xt, .int .i64 xi, .string (bs xc), .int .i64 xp] 33)) nq
    exact ⟨rfl, HK.out _ W, below_low W hBs, keeps_below W⟩
  · rw [hk]
    have hbg := fun w' hb => jbegins_any B rb r x fr w' (HK.out w' hb) hok hi hc (by have := hs.1; omega)
    generalize r.beginsT x fr = q at *
    have HB := Lib.hid hbg
    clear hbg hk
    cases hfx : f x.id with
    | none =>
      rw [hfx] at hL
      simp only [ptrOf] at hL
      obtain ⟨xt, xi, xc, xp⟩ := x
      simp only at *
      subst ht
      have q1 : (xi == 0) = false := by simpa using h0
      clear h0 hfx
      go_enter Tryd.func25, Tryd.ntmps25
      go_wp2_with fail
      go_quiet (fail)
      go_wp2_with fail
      have W := below_drewN (below_alloc w (.cells #[.int .i64 1, .int .i64 xi, .string (bs xc), .int .i64 xp] 33)) nq
      refine (HB.out _ W).mono ?_
      rintro e w2 ⟨rfl, hr, hbw, hkp⟩
      go_wp2_with fail
      go_ret
      exact ⟨rfl, hr, (below_low W hBs).trans hbw, (keeps_below W).trans hkp⟩
    | some pb =>
      rw [hfx] at hL
      simp only [ptrOf] at hL
      obtain ⟨xt, xi, xc, xp⟩ := x
      simp only at *
      subst ht
      have q1 : (xi == 0) = false := by simpa using h0
      clear h0 hfx
      go_enter Tryd.func25, Tryd.ntmps25
      go_wp2_with fail
      go_quiet (fail)
      go_wp2_with fail
      have W := below_drewN (below_alloc w (.cells #[.int .i64 1, .int .i64 xi, .string (bs xc), .int .i64 xp] 33)) nq
      refine (HB.out _ W).mono ?_
      rintro e w2 ⟨rfl, hr, hbw, hkp⟩
      go_wp2_with fail
      go_ret
      exact ⟨rfl, hr, (below_low W hBs).trans hbw, (keeps_below W).trans hkp⟩
  · rw [hk]
    have hpos := (hok.2 x.id p hp).1
    have hgo := fun w' hb => jgoes_any B rb r vl mb vf rows f x p pb w' hrb (HH.out w' hb).1 (HH.out w' hb).2 hi hp hf hpos (by have := hs.1; omega) (by have := hs.2.2 _ _ hp; omega) (by have := hs.2.1 _ hpos; omega) (HGK.out w' hb)
    generalize r.goes x p = q at *
    have HB := Lib.hid hgo
    rw [hf] at hL
    simp only [ptrOf] at hL
    obtain ⟨xt, xi, xc, xp⟩ := x
    simp only at *
    have q1 : (xi == 0) = false := by simpa using h0
    have q2 : (xt == 1) = false := by simpa using ht
    clear h0 ht hgo hk hp hf
    go_enter Tryd.func25, Tryd.ntmps25
    go_wp2_with fail
    go_quiet (fail)
    go_wp2_with fail
    have W := below_drewN (below_alloc w (.cells #[.int .i64 xt, .int .i64 xi, .string (bs xc), .int .i64 xp] 33)) nq
    refine (HB.out _ W).mono ?_
    rintro e w2 ⟨rfl, hr, hbw, hkp⟩
    go_wp2_with fail
    go_ret
    exact ⟨rfl, hr, (below_low W hBs).trans hbw, (keeps_below W).trans hkp⟩
end Go.Proofs.YtniflggmfegnfaaDoor
