/- Words and laws that all texts of this seat use: texts as lists of bytes, slices as rows of cells, and the rules for one operation of a region that draws its order. No condition. -/
import Derived.Test.YtihfibelklhkbaaChecked
import Derived.Test.YtihfibelklhkbaaRg
import Derived.Test.YtihfibelklhkbaaPlain
import Derived.WalkKit
import Derived.WalkSpells
import Derived.WalkLawsBesides
import Derived.BigQuiet
import Derived.Deep.QuietTactic
import Derived.Below
import Derived.Laws.IdiomStrings
import Derived.Laws.BytesArg
import Derived.Laws.OwnMore
import Derived.Laws.MakeOwn
import Derived.Lib.Hide
namespace Go.Proofs.Ytihfibelklhkbaa
open Go.RowKit

/-! ### texts -/
/-- A text of these bytes. -/
def bs (l : Bs) : ByteArray := ⟨l.toArray⟩
theorem bs_of (s : ByteArray) : s = bs s.data.toList := by cases s; simp [bs]
@[go_sem] theorem bs_size (l : Bs) : (bs l).size = l.length := by simp [bs, ByteArray.size]
@[go_sem] theorem bs_append (a b : Bs) : bs a ++ bs b = bs (a ++ b) := by
  apply ByteArray.ext
  simp [bs]
@[go_sem] theorem bs_data (l : Bs) : (bs l).data = l.toArray := rfl
@[go_sem] theorem bs_lit (l : Bs) : ({ data := l.toArray } : ByteArray) = bs l := rfl
theorem bs_inj {a b : Bs} : bs a = bs b ↔ a = b := by
  constructor
  · intro h
    have := congrArg (fun s => s.data.toList) h
    simpa [bs] using this
  · rintro rfl; rfl
@[go_sem] theorem bs_extract (l : Bs) (i j : Nat) : (bs l).extract i j = bs ((l.take j).drop i) := by
  apply ByteArray.ext
  simp [bs, ByteArray.data_extract, List.drop_take]
@[go_sem] theorem bs_toList (l : Bs) : (bs l).toList = l := by
  have h : ∀ (n i : Nat) (r : Bs), (bs l).size - i = n → ByteArray.toList.loop (bs l) i r = r.reverse ++ l.drop i := by
    intro n
    induction n with
    | zero =>
      intro i r h
      rw [ByteArray.toList.loop]
      rw [bs_size] at h
      rw [if_neg (by rw [bs_size]; omega), List.drop_of_length_le (by omega), List.append_nil]
    | succ n ih =>
      intro i r h
      rw [ByteArray.toList.loop]
      rw [bs_size] at h
      have hi : i < l.length := by omega
      rw [if_pos (by rw [bs_size]; omega), ih (i + 1) _ (by rw [bs_size]; omega), List.reverse_cons, List.append_assoc]
      congr 1
      rw [List.drop_eq_getElem_cons hi]
      simp [bs, ByteArray.get!, hi]
  have := h ((bs l).size - 0) 0 [] rfl
  simpa [ByteArray.toList] using this
@[go_sem] theorem bs_at (l : Bs) (i : Nat) (h : i < (bs l).size) : (((bs l)[i]'h).toNat : Int) = at0 l i := by
  have hi : i < l.length := by simpa [bs_size] using h
  unfold at0
  have : (bs l)[i]'h = l[i] := by
    show (bs l).data[i]'h = l[i]
    simp [bs]
  rw [this, List.getD_eq_getElem?_getD, List.getElem?_eq_getElem hi]
  rfl
/-- A byte's cell. -/
def bv (b : UInt8) : Value := .int .u8 (b.toNat : Int)
theorem bv_u8 (n : Int) : bv (u8 n) = .int .u8 (n % 256) := by rw [bv, u8_cast]
theorem bv_lit (n : Int) (h0 : 0 ≤ n) (h1 : n < 256) : bv (u8 n) = .int .u8 n := by rw [bv_u8]; congr 1; omega

abbrev Rec.v (r : Rec) : Value := .agg #[.int .i64 r.t, .int .i64 r.id, .string (bs r.c), .int .i64 r.p]
attribute [go_sem] two_len

theorem below_drewN {B : Nat} {a w : World} (h : Below B a w) (n : Nat) : Below B a (w.drewN n) := ⟨h.os, h.tape, h.output, h.size, h.block⟩
/-- A call behind a world that has grown. -/
theorem below_later {w w1 w2 : World} (h : Below w.heap.size w w1) (k : Below w1.heap.size w1 w2) : Below w.heap.size w w2 := h.trans (k.mono h.size)
theorem below_alloc (w : World) (o : Obj) : Below w.heap.size w (w.alloc o) := (Below.refl _ _).alloc (Nat.le_refl _) o
/-- Behind a new block and a call. -/
theorem below_after {w w1 : World} {o : Obj} (h : Below (w.alloc o).heap.size (w.alloc o) w1) : Below w.heap.size w w1 := below_later (below_alloc w o) h
theorem below_after2 {w w1 : World} {a b : Obj} (h : Below ((w.alloc a).alloc b).heap.size ((w.alloc a).alloc b) w1) : Below w.heap.size w w1 := below_later (below_alloc w a) (below_after h)
/-- A new block's cells behind a call. -/
theorem cell_after {w w1 : World} {cs : Array Value} {e : TypeId} (h : Below (w.alloc (.cells cs e)).heap.size (w.alloc (.cells cs e)) w1) (j : Nat) : w1.cell? ⟨w.heap.size, j, none⟩ = cs[j]? := by
  rw [h.cell (by simp)]; simp
/-- What a block holds, behind a call; behind a new block and a call; the new block itself. -/
theorem kept {w w1 : World} {b : Nat} {o : Obj} (h : w.heap[b]? = some o) (hb : Below w.heap.size w w1) : w1.heap[b]? = some o := by
  rw [hb.block b (Array.getElem?_eq_some_iff.1 h).1]; exact h
theorem kept_alloc {w w1 : World} {b : Nat} {o x : Obj} (h : w.heap[b]? = some o) (hb : Below (w.alloc x).heap.size (w.alloc x) w1) : w1.heap[b]? = some o :=
  kept (by rw [heap_alloc_old w x (Array.getElem?_eq_some_iff.1 h).1]; exact h) hb
theorem new_alloc {w w1 : World} {x : Obj} (hb : Below (w.alloc x).heap.size (w.alloc x) w1) : w1.heap[w.heap.size]? = some x := kept (heap_alloc_new w x) hb
theorem box_cells {w : World} {b : Nat} {cs : Array Value} {e : TypeId} {fr : Nat × Nat} (h : w.heap[b]? = some (.cells cs e fr)) : ∀ j, w.cell? ⟨b, j, none⟩ = cs[j]? := by
  intro j
  simp [World.cell?, h]
theorem box_free {w : World} {b : Nat} {cs : Array Value} {e : TypeId} (h : w.heap[b]? = some (.cells cs e (0, 0))) : ∀ j, w.frozen? ⟨b, j, none⟩ = false := by
  intro j
  simp [World.frozen?, h]
theorem set_box {w : World} {b i : Nat} {cs : Array Value} {e : TypeId} {fr : Nat × Nat} (h : w.heap[b]? = some (.cells cs e fr)) (v : Value) : (w.setCell ⟨b, i, none⟩ v).heap[b]? = some (.cells (cs.setIfInBounds i v) e fr) := by
  simp only [World.setCell, Array.getElem?_modify, h]
  simp
theorem set_other {w : World} {b c i : Nat} {o : Obj} (h : w.heap[b]? = some o) (hne : b ≠ c) (v : Value) : (w.setCell ⟨c, i, none⟩ v).heap[b]? = some o := by
  rw [Below.heap_setCell _ _ _ _ hne]; exact h
theorem box_lt {w : World} {b : Nat} {o : Obj} (h : w.heap[b]? = some o) : b < w.heap.size := (Array.getElem?_eq_some_iff.1 h).1
theorem frozen_after {w w1 : World} {cs : Array Value} {e : TypeId} (h : Below (w.alloc (.cells cs e)).heap.size (w.alloc (.cells cs e)) w1) (j : Nat) : w1.frozen? ⟨w.heap.size, j, none⟩ = false := by
  rw [h.frozen (by simp)]; simp
theorem size_after {w w1 : World} {o : Obj} (h : Below (w.alloc o).heap.size (w.alloc o) w1) : w.heap.size < w1.heap.size := by
  have := h.size; simp at this; omega

namespace Rg

/-! ### slices -/
/-- v is a slice of n elements (size cells each, of type e) whose cells are xs; its block, if it has one, is one of F. -/
def Row (e : TypeId) (size n : Nat) (xs : List Value) (v : Value) (F : Nat → Prop) (w : World) : Prop :=
  w.ownsRow 0 e size v n xs ∧ ∀ k, v.ownBlock = some k → F k

theorem ownsRow_step {M : Nat → Prop} {w w' : World} {base : Nat} {e : TypeId} {size n : Nat} {xs : List Value} {v : Value} (h : w.ownsRow base e size v n xs) (hs : Step M w w')
    (hM : ∀ k, v.ownBlock = some k → ¬ M k) : w'.ownsRow base e size v n xs := by
  refine ⟨h.1, ?_⟩
  rcases h.2 with hn | ⟨g, cap, cur, rfl, hb, hgg, rest⟩
  · exact .inl hn
  · refine .inr ⟨g, cap, cur, rfl, hb, ?_, rest⟩
    rw [hs.block g (Array.getElem?_eq_some_iff.1 hgg).1 (hM g rfl)]
    exact hgg

theorem ownsRow_zero {w : World} {base : Nat} {e : TypeId} {size n : Nat} {xs : List Value} {v : Value} (h : w.ownsRow base e size v n xs) : w.ownsRow 0 e size v n xs := by
  refine ⟨h.1, ?_⟩
  rcases h.2 with hn | ⟨g, cap, cur, hv, _, rest⟩
  · exact .inl hn
  · exact .inr ⟨g, cap, cur, hv, Nat.zero_le _, rest⟩

theorem row_stable {w0 : World} {own0 : Nat → Nat → Prop} {e : TypeId} {size n : Nat} {xs : List Value} : Stable w0 own0 (.any (Row e size n xs)) := by
  rintro v F M w w' ⟨h, hF⟩ hs hM
  exact ⟨ownsRow_step h hs (fun k hk hm => (hM k hm).1 (hF k hk)), hF⟩

theorem val_stable {w0 : World} {own0 : Nat → Nat → Prop} {c : Value} : Stable w0 own0 (.val c) := fun _ _ _ _ _ h _ _ => h

theorem stable_nil {w0 : World} {own0 : Nat → Nat → Prop} : ∀ φ ∈ ([] : List Fact), Stable w0 own0 φ := fun _ h => by cases h
theorem stable_val {w0 : World} {own0 : Nat → Nat → Prop} {c : Value} {l : List Fact} (h : ∀ φ ∈ l, Stable w0 own0 φ) : ∀ φ ∈ Fact.val c :: l, Stable w0 own0 φ := fun φ hm => by
  rcases List.mem_cons.1 hm with rfl | hm
  · exact val_stable
  · exact h φ hm
theorem stable_row {w0 : World} {own0 : Nat → Nat → Prop} {e : TypeId} {size n : Nat} {xs : List Value} {l : List Fact} (h : ∀ φ ∈ l, Stable w0 own0 φ) : ∀ φ ∈ Fact.any (Row e size n xs) :: l, Stable w0 own0 φ := fun φ hm => by
  rcases List.mem_cons.1 hm with rfl | hm
  · exact row_stable
  · exact h φ hm

theorem row_new (w : World) (e : TypeId) (size n : Nat) (cur : Array Value) (hs : cur.size = n * size) (hn : n ≤ maxLen) :
    Row e size n cur.toList (.slice (some ⟨w.heap.size, 0, none⟩) n n) (fun k => k = w.heap.size) (w.alloc (.cells cur e)) := by
  refine ⟨⟨by simpa using hs, .inr ⟨w.heap.size, n, cur, rfl, Nat.zero_le _, heap_alloc_new w _, Nat.le_refl _, hn, hs, ?_⟩⟩, ?_⟩
  · rw [← hs, ← Array.length_toList, List.take_length]
  · intro k hk; simp [Value.ownBlock] at hk; exact hk.symm

/-- A new block of bytes. -/
theorem row_bytes (w : World) (e : TypeId) (l : Bs) (cur : Array Value) (h : cur.toList = l.map bv) (hn : l.length ≤ maxLen) :
    Row e 1 l.length (l.map bv) (.slice (some ⟨w.heap.size, 0, none⟩) l.length l.length) (fun k => k = w.heap.size) (w.alloc (.cells cur e)) := by
  rw [← h]
  have hl : cur.size = l.length := by rw [← Array.length_toList, h, List.length_map]
  exact row_new w e 1 l.length cur (by omega) hn

/-- 'string(b)', b a row of bytes. -/
theorem row_string {P : Program} {src dst e : TypeId} (hs : P.underlying src = some (.slice e)) (he : P.underlying e = some (.int .u8)) (hd : P.underlying dst = some .string)
    {n : Nat} {l : Bs} {v : Value} {F : Nat → Prop} {w : World} (h : Row e 1 n (l.map bv) v F w) : (convert src dst v).run P w = .ok (.string (bs l)) w := by
  have hlen : l.length = n := by have := h.1.1; simpa using this
  rcases h.1.2 with ⟨rfl, rfl⟩ | ⟨g, cap, cur, rfl, _, hg, _, _, _, ht⟩
  · have : l = [] := List.eq_nil_of_length_eq_zero hlen
    subst this
    exact run_convert_bytes_nil w src e hs he 0 0 dst hd
  · subst hlen
    refine run_convert_bytes_back w src dst e ⟨g, 0, none⟩ cap l hs he hd ?_
    intro j hj
    have := (h.1).cells (g := g) rfl j (bv l[j]) (by simp [hj])
    rw [this]; rfl

section
variable {P : Program} {ops : Array Oper} {w0 : World} {own0 : Nat → Nat → Prop} {cons : Nat → List Nat} {facts : List Fact} {i : Nat} {o : Oper} {vs : Nat → Value} {a : Act}

/-! ### one operation -/
theorem Obl.read {c : Value} (hg : Region.wanted o (yielded ops a.tmps) = true) (h : ∀ w, Step (fun k => ∃ j, own0 j k) w0 w → (execOp a.eval o).run P w = .ok (.value c) w) :
    Obl P ops w0 own0 cons facts i o (.val c) vs a := by
  intro F w K hp hK
  rw [if_pos hg]
  unfold Oper.wp
  rw [h w hp.step]
  exact hK c w ⟨fun _ => False, Step.refl _ _, ⟨rfl, fun _ => id⟩, fun _ h => h.elim⟩

theorem Obl.pure {c : Value} (hg : Region.wanted o (yielded ops a.tmps) = true) (h : ∀ w, (execOp a.eval o).run P w = .ok (.value c) w) :
    Obl P ops w0 own0 cons facts i o (.val c) vs a := Obl.read hg fun w _ => h w

theorem below_step {B : Nat} {w w' : World} {M : Nat → Prop} (h : Below B w w') (hB : B = w.heap.size) : Step M w w' :=
  ⟨h.os, h.tape, h.output, h.size, fun k hk _ => h.block k (by omega)⟩

/-- A call whose result is known, and that writes nothing that was there. -/
theorem Obl.call {c : Value} {f : FuncId} {args : Array Value} (hg : Region.wanted o (yielded ops a.tmps) = true) (h : ∀ w, (execOp a.eval o).run P w = .ok (.enter f args) w)
    (hc : ∀ w, Step (fun k => ∃ j, own0 j k) w0 w → Calls P f args w fun e w' => e = .returned c ∧ Below w.heap.size w w') :
    Obl P ops w0 own0 cons facts i o (.val c) vs a := by
  intro F w K hp hK
  rw [if_pos hg]
  unfold Oper.wp
  rw [h w]
  refine Calls.mono (hc w hp.step) ?_
  rintro e w' ⟨rfl, hb⟩
  exact hK c w' ⟨fun _ => False, below_step hb rfl, ⟨rfl, fun _ => id⟩, fun _ h => h.elim⟩

/-- A call whose result has a property, with new blocks of its own. -/
theorem Obl.callAny {p : Value → (Nat → Prop) → World → Prop} {f : FuncId} {args : Array Value} (hg : Region.wanted o (yielded ops a.tmps) = true) (h : ∀ w, (execOp a.eval o).run P w = .ok (.enter f args) w)
    (hc : ∀ w, Step (fun k => ∃ j, own0 j k) w0 w → Calls P f args w fun e w' => ∃ v, e = .returned v ∧ p v (fun k => w.heap.size ≤ k ∧ k < w'.heap.size) w' ∧ Below w.heap.size w w') :
    Obl P ops w0 own0 cons facts i o (.any p) vs a := by
  intro F w K hp hK
  rw [if_pos hg]
  unfold Oper.wp
  rw [h w]
  refine Calls.mono (hc w hp.step) ?_
  rintro e w' ⟨v, rfl, hv, hb⟩
  exact hK v w' ⟨_, below_step hb rfl, hv, fun k hk => ⟨hk.2, .inl hk.1⟩⟩

/-- What makes one new block, and gives a value that leads there. -/
theorem Obl.new {p : Value → (Nat → Prop) → World → Prop} (hg : Region.wanted o (yielded ops a.tmps) = true) {v : World → Value} {ob : World → Obj} (h : ∀ w, (execOp a.eval o).run P w = .ok (.value (v w)) (w.alloc (ob w)))
    (hp : ∀ w, p (v w) (fun k => k = w.heap.size) (w.alloc (ob w))) :
    Obl P ops w0 own0 cons facts i o (.any p) vs a := by
  intro F w K _ hK
  rw [if_pos hg]
  unfold Oper.wp
  rw [h w]
  refine hK _ _ ⟨_, ?_, hp w, ?_⟩
  · exact below_step ((Below.refl w.heap.size w).alloc (Nat.le_refl _) _) rfl
  · rintro k rfl
    exact ⟨by simp, .inl (Nat.le_refl _)⟩

@[go_sem] theorem slot_val (c v : Value) : (Fact.val c).slot v = c := rfl
@[go_sem] theorem slot_any (p : Value → (Nat → Prop) → World → Prop) (v : Value) : (Fact.any p).slot v = v := rfl

variable {os : List Oper} {φs : List Fact}
theorem Chain.pure {c : Value} (hg : Region.wanted o (yielded ops a.tmps) = true) (h : ∀ w, (execOp a.eval o).run P w = .ok (.value c) w)
    (hr : Chain P ops w0 own0 cons facts vs os φs (i + 1) (a.put o.dst c)) : Chain P ops w0 own0 cons facts vs (o :: os) (.val c :: φs) i a := ⟨Obl.pure hg h, hr⟩
theorem Chain.read {c : Value} (hg : Region.wanted o (yielded ops a.tmps) = true) (h : ∀ w, Step (fun k => ∃ j, own0 j k) w0 w → (execOp a.eval o).run P w = .ok (.value c) w)
    (hr : Chain P ops w0 own0 cons facts vs os φs (i + 1) (a.put o.dst c)) : Chain P ops w0 own0 cons facts vs (o :: os) (.val c :: φs) i a := ⟨Obl.read hg h, hr⟩
theorem Chain.call {c : Value} (f : FuncId) (args : Array Value) (hg : Region.wanted o (yielded ops a.tmps) = true) (h : ∀ w, (execOp a.eval o).run P w = .ok (.enter f args) w)
    (hc : ∀ w, Step (fun k => ∃ j, own0 j k) w0 w → Calls P f args w fun e w' => e = .returned c ∧ Below w.heap.size w w')
    (hr : Chain P ops w0 own0 cons facts vs os φs (i + 1) (a.put o.dst c)) : Chain P ops w0 own0 cons facts vs (o :: os) (.val c :: φs) i a := ⟨Obl.call hg h hc, hr⟩
theorem Chain.callAny {p : Value → (Nat → Prop) → World → Prop} (f : FuncId) (args : Array Value) (hg : Region.wanted o (yielded ops a.tmps) = true) (h : ∀ w, (execOp a.eval o).run P w = .ok (.enter f args) w)
    (hc : ∀ w, Step (fun k => ∃ j, own0 j k) w0 w → Calls P f args w fun e w' => ∃ v, e = .returned v ∧ p v (fun k => w.heap.size ≤ k ∧ k < w'.heap.size) w' ∧ Below w.heap.size w w')
    (hr : Chain P ops w0 own0 cons facts vs os φs (i + 1) (a.put o.dst (vs i))) : Chain P ops w0 own0 cons facts vs (o :: os) (.any p :: φs) i a := ⟨Obl.callAny hg h hc, hr⟩
theorem Chain.new {p : Value → (Nat → Prop) → World → Prop} (v : World → Value) (ob : World → Obj) (hg : Region.wanted o (yielded ops a.tmps) = true) (h : ∀ w, (execOp a.eval o).run P w = .ok (.value (v w)) (w.alloc (ob w)))
    (hp : ∀ w, p (v w) (fun k => k = w.heap.size) (w.alloc (ob w)))
    (hr : Chain P ops w0 own0 cons facts vs os φs (i + 1) (a.put o.dst (vs i))) : Chain P ops w0 own0 cons facts vs (o :: os) (.any p :: φs) i a := ⟨Obl.new hg h hp, hr⟩
/-- What reads a fact of an operation ahead of it. -/
theorem Chain.reads {c : Value} (d : Nat) {p : Value → (Nat → Prop) → World → Prop} (hf : facts[d]? = some (.any p)) (hg : Region.wanted o (yielded ops a.tmps) = true) (hd : (deps o).contains d = true) (hn : ∀ j, j ≠ i → d ∉ cons j)
    (h : ∀ w F, Step (fun k => ∃ j, own0 j k) w0 w → p (vs d) F w → (execOp a.eval o).run P w = .ok (.value c) w)
    (hr : Chain P ops w0 own0 cons facts vs os φs (i + 1) (a.put o.dst c)) : Chain P ops w0 own0 cons facts vs (o :: os) (.val c :: φs) i a := by
  refine ⟨?_, hr⟩
  intro F w K hp hK
  rw [if_pos hg]
  unfold Oper.wp
  rw [h w (F d) hp.step (hp.fact d _ (by simpa using hd) hn hf)]
  exact hK c w ⟨fun _ => False, Step.refl _ _, ⟨rfl, fun _ => id⟩, fun _ h => h.elim⟩
theorem Chain.nil {a : Act} {i : Nat} : Chain P ops w0 own0 cons facts vs [] φs i a := trivial

/-- The rule where nothing that was there ahead of the region is written, and no operation takes up what another one made. -/
theorem region0 {Q : Exit → Act → World → Prop} {id : Nat} (n : Nat) (facts : List Fact) {ops : List Oper} (hm : P.follows .mixedOrders = true) (hok : okOps ops n [] = true) (hn : n ≤ a.tmps.size) (hlen : facts.length = ops.length)
    (hstab : ∀ φ ∈ facts, Stable w0 (fun _ _ => False) φ)
    (hchain : ∀ vs, Chain P ops.toArray w0 (fun _ _ => False) (fun i => ([] : List (List Nat)).getD i []) facts vs ops facts 0 a)
    (hend : ∀ vs F w, End w0 (fun _ _ => False) (fun i => ([] : List (List Nat)).getD i []) facts vs F w → Q .normal (finalAct vs ops facts 0 a) w) :
    (Code.region id ops.toArray true).wp P Q a w0 :=
  wp_region (own0 := fun _ _ => False) hm (okay_of hok (by simp)) hn (by simpa using hlen) hstab (fun _ _ h => h.elim) (fun _ _ _ h => h.elim) hchain hend

theorem nocons : ∀ (i d : Nat) (j : Nat), j ≠ i → d ∉ (fun i => ([] : List (List Nat)).getD i []) j := by intro i d j _; simp

theorem step_below {w w' : World} (h : Step (fun _ => ∃ _ : Nat, False) w w') : Below w.heap.size w w' :=
  ⟨h.os, h.tape, h.output, h.size, fun k hk => h.block k hk (by simp)⟩
end
end Rg

theorem u8_wrap (n : Int) : IntKind.u8.wrap n = n % 256 := by simp [IntKind.wrap, IntKind.bits, IntKind.signed]
/-! ### this program's types -/
theorem info_u8 : (Try.prog.info? 5).map (fun i => (i.zero, i.size, i.bytes)) = some (some (.int .u8 0), 1, 1) := by kernel_rfl
theorem inf_u8 : ∃ i, Try.prog.info? 5 = some i ∧ i.zero = some (.int .u8 0) ∧ i.size = 1 ∧ i.bytes = 1 := by
  obtain ⟨i, hi, h⟩ := Option.map_eq_some_iff.1 info_u8
  simp only [Prod.mk.injEq] at h
  exact ⟨i, hi, h.1, h.2.1, h.2.2⟩
theorem row_text {n : Nat} {l : Bs} {v : Value} {F : Nat → Prop} {w : World} (h : Rg.Row 5 1 n (l.map bv) v F w) : (convert 34 9 v).run Try.prog w = .ok (.string (bs l)) w :=
  Rg.row_string Try.underlying34 Try.underlying5 Try.underlying9 h
/-- 'make([]byte, n)'. -/
theorem make_bytes (w : World) (n : Int) (h0 : 0 ≤ n) (h1 : n ≤ 281474976710656) :
    (Instr.makeSlice 34 (.int .i64 n) (.int .i64 n)).run Try.prog w = .ok (.slice (some ⟨w.heap.size, 0, none⟩) n.toNat n.toNat) (w.alloc (.cells (madeCells #[.int .u8 0] n.toNat) 5)) := by
  obtain ⟨i, hi, hz, hs, hb⟩ := inf_u8
  have := run_make (P := Try.prog) w 34 5 i _ Try.underlying34 hi hz .i64 .i64 n n h0 (Int.le_refl _) (by rw [hb]; omega) (by omega)
  rw [this, hs]
  simp [Value.cells]
theorem made_cells (n : Nat) : (madeCells #[.int .u8 0] n).toList = (List.replicate n 0).map bv := by
  rw [toList_madeCells_one, List.map_replicate]; rfl
theorem made_bytes (w : World) (n : Nat) (h : n ≤ maxLen) :
    Rg.Row 5 1 n ((List.replicate n 0).map bv) (.slice (some ⟨w.heap.size, 0, none⟩) n n) (fun k => k = w.heap.size) (w.alloc (.cells (madeCells #[.int .u8 0] n) 5)) := by
  have := Rg.row_bytes w 5 (List.replicate n 0) (madeCells #[.int .u8 0] n) (made_cells n) (by simpa using h)
  simpa using this
/-- 'string(make([]byte, n))'. -/
theorem text_made (w : World) (n : Nat) (h : n ≤ maxLen) :
    (convert 34 9 (.slice (some ⟨w.heap.size, 0, none⟩) n n)).run Try.prog (w.alloc (.cells (madeCells #[.int .u8 0] n) 5)) = .ok (.string (bs (List.replicate n 0))) (w.alloc (.cells (madeCells #[.int .u8 0] n) 5)) :=
  row_text (made_bytes w n h)
end Go.Proofs.Ytihfibelklhkbaa
