/- Maps from int, as functions: elements that read whole. Look-up, store, delete, the keys in order. No condition. -/
import Derived.Maps.OwnSet
import Derived.Lib.SlKeysI
import Derived.Test.YtihfibelklhkbaaOnly
import Derived.Test.YtihfibelklhkbaaRgOwn
import Derived.Test.YtihfibelklhkbaaAid
import Derived.BigQuiet
namespace Go.Proofs.Ytihfibelklhkbaa
open Go.RowKit Go.WideElems

/-- An integer's number. -/
def zOf : Value → Int | .int _ q => q | _ => 0
/-- How elements of one type read. -/
structure Enc where
  α : Type
  enc : α → Value
  dat : α → DataW Unit
  R : Value → Option (DataW Unit × List MemPlace)
  fwd : ∀ x, R (enc x) = some (dat x, [])
  inv : ∀ v x ps, R v = some (dat x, ps) → v = enc x
  zero : α

theorem gint_law : Maps.Keyed Try.prog 3 := Maps.int_keyed Try.underlying3
theorem gint_key {k : Int} (h : (Lit.int .i64 k).wf = true) : keyOf Try.prog 3 (.int .i64 k) = some (.int .i64 k) := Maps.keyOf_int_mk Try.underlying3 h
theorem gisKey (k : Int) : WideAt.IsKeyLit (.int .i64 k) := by unfold WideAt.IsKeyLit; trivial

/-- Block mb is a map of at most n entries; f tells the element that a key leads to. -/
def GMap (E : Enc) (w : World) (mb n : Nat) (f : Int → Option E.α) : Prop :=
  ∃ D : DataW Unit, w.ownsMap Try.prog 3 E.R mb n D ∧ ∀ k, (Lit.int .i64 k).wf = true → Maps.has D (.int .i64 k) = (f k).isSome ∧ D.atKey (.int .i64 k) (E.dat E.zero) = E.dat ((f k).getD E.zero)

section
variable {E : Enc}
theorem GMap.made (w : World) : GMap E (w.alloc (.map #[] 0)) w.heap.size 0 (fun _ => none) :=
  ⟨_, World.ownsMap_made w _ _ _, fun k _ => ⟨rfl, rfl⟩⟩
theorem GMap.mono {w : World} {mb n m : Nat} {f : Int → Option E.α} (h : GMap E w mb n f) (hn : n ≤ m) : GMap E w mb m f := by
  obtain ⟨D, h1, h2⟩ := h
  exact ⟨D, h1.mono hn, h2⟩
theorem GMap.lt {w : World} {mb n : Nat} {f : Int → Option E.α} (h : GMap E w mb n f) : mb < w.heap.size := by obtain ⟨D, h1, _⟩ := h; exact h1.lt
theorem GMap.move {w w' : World} {mb n : Nat} {f : Int → Option E.α} (h : GMap E w mb n f) (hs : w'.heap[mb]? = w.heap[mb]?) : GMap E w' mb n f := by
  obtain ⟨D, ⟨es, clock, hb, r⟩, h2⟩ := h
  exact ⟨D, ⟨es, clock, by rw [hs]; exact hb, r⟩, h2⟩
theorem GMap.step {w w' : World} {mb n : Nat} {f : Int → Option E.α} {M : Nat → Prop} (h : GMap E w mb n f) (hs : Rg.Step M w w') (hM : ¬ M mb) : GMap E w' mb n f := h.move (hs.block mb h.lt hM)
theorem GMap.kept {w w' : World} {mb n : Nat} {f : Int → Option E.α} (h : GMap E w mb n f) (hs : Below w.heap.size w w') : GMap E w' mb n f :=
  h.step (Rg.below_step (M := fun _ => False) hs rfl) id
theorem GMap.congr {w : World} {mb n : Nat} {f g : Int → Option E.α} (h : GMap E w mb n f) (hfg : ∀ k, (Lit.int .i64 k).wf = true → f k = g k) : GMap E w mb n g := by
  obtain ⟨D, h1, h2⟩ := h
  exact ⟨D, h1, fun k hk => by rw [← hfg k hk]; exact h2 k hk⟩
theorem GMap.obj {w : World} {mb n : Nat} {f : Int → Option E.α} (h : GMap E w mb n f) : ∃ es clock, w.heap[mb]? = some (.map es clock) := by
  obtain ⟨D, ⟨es, clock, hb, _⟩, _⟩ := h
  exact ⟨es, clock, hb⟩
theorem GMap.fits {w : World} {mb n : Nat} {f : Int → Option E.α} {L : List Int} (h : GMap E w mb n f) (hs : L.Pairwise (· < ·)) (hw : ∀ x ∈ L, (Lit.int .i64 x).wf = true) (hf : ∀ x, (Lit.int .i64 x).wf = true → (x ∈ L ↔ (f x).isSome = true)) :
    ∃ D : DataW Unit, w.ownsMap Try.prog 3 E.R mb n D ∧ L.Perm (intKeys D) := by
  obtain ⟨D, h1, h2⟩ := h
  refine ⟨D, h1, ?_⟩
  obtain ⟨es, hD, hpw, _⟩ := h1.entries gint_law
  have hwf := intKeys_wf h1 Try.underlying3
  obtain ⟨es', hD', hko⟩ := h1.keysOf
  obtain rfl : es = es' := by rw [hD] at hD'; simpa using hD'
  subst hD
  have hk : ∀ p ∈ es, ∃ x, p.1 = .int .i64 x := fun p hp => by obtain ⟨v, hv⟩ := hko p hp; obtain ⟨x, _, hx, _⟩ := Maps.keyOf_i64 Try.underlying3 hv; exact ⟨x, hx⟩
  refine perm_intKeys hpw hk (hs.imp (fun h => Int.ne_of_lt h)) (fun x => ?_)
  by_cases hx : (Lit.int .i64 x).wf = true
  · rw [hf x hx, (h2 x hx).1]
  · refine ⟨fun h => absurd (hw x h) hx, fun h => absurd ?_ hx⟩
    rw [Maps.has_eq, List.any_eq_true] at h
    obtain ⟨p, hp, hq⟩ := h
    obtain ⟨a, ha⟩ := hk p hp
    rw [ha] at hq
    have hax : a = x := by simpa [Lit.sameKey] using hq
    subst hax
    refine hwf a ?_
    show a ∈ es.map fun p => intOf p.1
    exact List.mem_map.2 ⟨p, hp, by rw [ha]; rfl⟩
theorem sort_sorted {L : List Int} (hs : L.Pairwise (· < ·)) {ss : List Int} (hp : ss.Perm L) : ss.mergeSort (fun x y => decide (x ≤ y)) = L := by
  rw [show ss.mergeSort (fun x y => decide (x ≤ y)) = L.mergeSort leI from mergeSort_of_perm_i hp]
  exact List.mergeSort_of_pairwise (hs.imp (fun h => by simpa [leI] using Int.le_of_lt h))
end

section
variable {E : Enc} {w : World} {mb n : Nat} {f : Int → Option E.α} {t e : TypeId}
theorem GMap.look (h : GMap E w mb n f) (ht : Try.prog.underlying t = some (.map 3 e)) (hz : (zeroValue e).run Try.prog w = .ok (E.enc E.zero) w) {k : Int} (hk : (Lit.int .i64 k).wf = true) :
    (Instr.lookup t (.map (some mb)) (.int .i64 k) false).run Try.prog w = .ok (E.enc ((f k).getD E.zero)) w := by
  obtain ⟨D, h1, h2⟩ := h
  obtain ⟨v, ps, hrun, hv⟩ := h1.lookup gint_law ht hz (E.fwd E.zero) (gint_key hk)
  rw [(h2 k hk).2] at hv
  rw [hrun, E.inv _ _ _ hv]
theorem GMap.look_ok (h : GMap E w mb n f) (ht : Try.prog.underlying t = some (.map 3 e)) (hz : (zeroValue e).run Try.prog w = .ok (E.enc E.zero) w) {k : Int} (hk : (Lit.int .i64 k).wf = true) :
    (Instr.lookup t (.map (some mb)) (.int .i64 k) true).run Try.prog w = .ok (.tuple #[E.enc ((f k).getD E.zero), .bool (f k).isSome]) w := by
  obtain ⟨D, h1, h2⟩ := h
  obtain ⟨v, ps, hrun, hv⟩ := h1.look_ok gint_law ht hz (E.fwd E.zero) (gint_key hk)
  rw [(h2 k hk).2] at hv
  rw [hrun, E.inv _ _ _ hv, (h2 k hk).1]
theorem GMap.update (h : GMap E w mb n f) (ht : Try.prog.underlying t = some (.map 3 e)) (hn : n < maxLen) {k : Int} (hk : (Lit.int .i64 k).wf = true) (b : E.α) :
    ∃ w', (Instr.mapUpdate t (.map (some mb)) (.int .i64 k) (E.enc b)).run Try.prog w = .ok () w' ∧ GMap E w' mb (n + 1) (fun x => if x = k then some b else f x) ∧ Only mb w w' := by
  obtain ⟨D, h1, h2⟩ := h
  obtain ⟨w', hrun, h3, h4⟩ := h1.update gint_law ht hn (gint_key hk) (E.fwd b)
  refine ⟨w', hrun, ⟨_, h3, fun x hx => ?_⟩, ⟨h4.os, h4.tape, h4.output, h4.size, fun i hi hne => h4.block i hi (by simpa using hne)⟩⟩
  by_cases e : x = k
  · subst e
    dsimp only
    rw [if_pos rfl]
    exact ⟨Maps.has_put_same h1.isMap (gisKey x) _, Maps.atKey_put_same h1.isMap (gisKey x) _ _⟩
  · dsimp only
    rw [if_neg e]
    have hne : Lit.int .i64 x ≠ Lit.int .i64 k := fun h => e (by simpa using h)
    exact ⟨(Maps.has_put_other hne _).trans (h2 x hx).1, (Maps.atKey_put_other hne _ _).trans (h2 x hx).2⟩
theorem GMap.drop (h : GMap E w mb n f) (ht : Try.prog.underlying t = some (.map 3 e)) {k : Int} (hk : (Lit.int .i64 k).wf = true) (ty : TypeId) :
    ∃ w', (Builtin.delete_ #[t, 3] ty #[.map (some mb), .int .i64 k]).run Try.prog w = .ok (.tuple #[]) w' ∧ GMap E w' mb n (fun x => if x = k then none else f x) ∧ Only mb w w' := by
  obtain ⟨D, h1, h2⟩ := h
  obtain ⟨w', hrun, h3, h4⟩ := h1.drop gint_law ht (gint_key hk) ty
  have h4 := h4.grown
  refine ⟨w', hrun, ⟨_, h3, fun x hx => ?_⟩, ⟨h4.os, h4.tape, h4.output, h4.size, fun i hi hne => h4.block i hi (by simpa using hne)⟩⟩
  by_cases e : x = k
  · subst e
    dsimp only
    rw [if_pos rfl]
    exact ⟨Maps.has_del_same, Maps.atKey_del_same _⟩
  · dsimp only
    rw [if_neg e]
    have hne : Lit.int .i64 x ≠ Lit.int .i64 k := fun h => e (by simpa using h)
    exact ⟨(Maps.has_del_other hne).trans (h2 x hx).1, (Maps.atKey_del_other hne _).trans (h2 x hx).2⟩
end

section
variable {E : Enc} {w : World} {mb n : Nat} {f : Int → Option E.α} {t e : TypeId} {ops : Array Oper} {rest : List Oper} {o : Oper} {a : Act} {Q : Exit → Act → World → Prop}
theorem wpList_gmap_drop (hg : o.guard = none) (m x : Operand) (hop : o.op = Op.call { callee := Callee.builtin Builtin.delete, args := #[m, x], argTypes := #[t, 3] }) (ht : Try.prog.underlying t = some (.map 3 e)) (h : GMap E w mb n f) {k : Int}
    (hm : a.eval m = .map (some mb)) (hx : a.eval x = .int .i64 k) (hk : (Lit.int .i64 k).wf = true)
    (hK : ∀ w', GMap E w' mb n (fun x => if x = k then none else f x) → Only mb w w' → wpList Try.prog ops Q rest (a.put o.dst (.tuple #[])) w') : wpList Try.prog ops Q (o :: rest) a w := by
  refine wpList_plain hg fun K' hK' => ?_
  obtain ⟨w', hrun, r1, r2⟩ := h.drop ht hk o.type
  unfold Oper.wp
  simp [execOp, hop, resolve, invoke, builtin, hm, hx, hrun, Result.andThen]
  exact hK' _ _ (hK w' r1 r2)
end

/-! ### pointers, connections -/
def gPtr : Option Nat → Value
  | none => .pointer none
  | some b => .pointer (some ⟨b, 0, none⟩)
def gPtrD : Option Nat → DataW Unit
  | none => .nil
  | some b => .lit (.int .u64 b)
def gPtrR : Value → Option (DataW Unit × List MemPlace)
  | .pointer none => some (.nil, [])
  | .pointer (some ⟨b, 0, none⟩) => some (.lit (.int .u64 b), [])
  | _ => none
theorem gPtr_inv (v : Value) (x : Option Nat) (ps : List MemPlace) (h : gPtrR v = some (gPtrD x, ps)) : v = gPtr x := by
  unfold gPtrR at h
  split at h
  · cases x with
    | none => rfl
    | some b => simp [gPtrD] at h
  · cases x with
    | none => simp [gPtrD] at h
    | some b => simp [gPtrD] at h; obtain ⟨h, _⟩ := h; have h2 := Int.ofNat_inj.1 h; subst h2; rfl
  · cases h
/-- Pointers. -/
abbrev EPtr : Enc := ⟨Option Nat, gPtr, gPtrD, gPtrR, fun x => by cases x <;> rfl, gPtr_inv, none⟩
def gConR : Value → Option (DataW Unit × List MemPlace)
  | .agg cs => (match cs.toList with
    | [p, .int .i64 k] => (gPtrR p).map fun q => (.agg [q.1, .lit (.int .i64 k)], [])
    | _ => none)
  | _ => none
theorem gCon_inv (v : Value) (x : Option Nat × Int) (ps : List MemPlace) (h : gConR v = some (.agg [gPtrD x.1, .lit (.int .i64 x.2)], ps)) : v = .agg #[gPtr x.1, .int .i64 x.2] := by
  obtain ⟨p, k⟩ := x
  unfold gConR at h
  split at h
  next cs =>
    split at h
    next p' k' hl =>
      obtain ⟨⟨q1, q2⟩, hq, he⟩ := Option.map_eq_some_iff.1 h
      simp at he
      obtain ⟨⟨h1, h2⟩, _⟩ := he
      subst h1; subst h2
      have := gPtr_inv _ _ _ hq
      subst this
      have e : cs = #[gPtr p, .int .i64 k'] := by apply Array.toList_inj.1; rw [hl]
      rw [e]
    next => cases h
  next => cases h
/-- Connections: to what, and the backend's number. -/
abbrev ECon : Enc := ⟨Option Nat × Int, fun x => .agg #[gPtr x.1, .int .i64 x.2], fun x => .agg [gPtrD x.1, .lit (.int .i64 x.2)], gConR, fun x => by obtain ⟨p, k⟩ := x; cases p <;> rfl, gCon_inv, (none, 0)⟩
end Go.Proofs.Ytihfibelklhkbaa
