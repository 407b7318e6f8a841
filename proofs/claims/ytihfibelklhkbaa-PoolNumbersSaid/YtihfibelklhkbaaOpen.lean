/- An argument that is a slice of structs, or of texts: opened to a list of what it holds. No condition. -/
import Derived.Test.YtihfibelklhkbaaBase
import Derived.Deep.Slices
import Derived.Deep.Fields
import Derived.ChangeSame
namespace Go.Proofs.Ytihfibelklhkbaa
open Go.RowKit Go.ChangeShapes Go.WideShapes Go.Deep

/-- v is a slice of n elements of so many cells each; xs: all their cells. -/
def Reads (w : World) (v : Value) (size n : Nat) (xs : List Value) : Prop :=
  xs.length = n * size ∧ n ≤ maxLen ∧ ∃ (a : Option Addr) (cap : Nat), v = .slice a n cap ∧ n ≤ cap ∧ cap ≤ maxLen ∧
    (0 < n → ∃ b off, a = some ⟨b, off, none⟩ ∧ ∀ j u, xs[j]? = some u → w.cell? ⟨b, off + j, none⟩ = some u)

theorem add_plain (b o k : Nat) : (⟨b, o, none⟩ : Addr).add k = ⟨b, o + k, none⟩ := by unfold Addr.add; split <;> simp_all

theorem flat_at {α : Type} {size : Nat} (f : α → List Value) : ∀ (rs : List α), (∀ r ∈ rs, (f r).length = size) → ∀ i j r, rs[i]? = some r → j < size → (rs.flatMap f)[i * size + j]? = (f r)[j]?
  | [], _, i, j, r, h, _ => by simp at h
  | r0 :: rs, hl, 0, j, r, h, hj => by
    simp at h
    subst h
    have h0 := hl r0 (by simp)
    rw [List.flatMap_cons, Nat.zero_mul, Nat.zero_add, List.getElem?_append_left (by omega)]
  | r0 :: rs, hl, i + 1, j, r, h, hj => by
    have h0 := hl r0 (by simp)
    rw [List.flatMap_cons, List.getElem?_append_right (by rw [h0, Nat.add_mul]; omega)]
    have e : (i + 1) * size + j - (f r0).length = i * size + j := by rw [h0, Nat.add_mul]; omega
    rw [e]
    exact flat_at f rs (fun r hr => hl r (by simp [hr])) i j r (by simpa using h) hj

theorem flat_len {α : Type} {size : Nat} (f : α → List Value) : ∀ (rs : List α), (∀ r ∈ rs, (f r).length = size) → (rs.flatMap f).length = rs.length * size
  | [], _ => by simp
  | r0 :: rs, hl => by
    rw [List.flatMap_cons, List.length_append, flat_len f rs (fun r hr => hl r (by simp [hr])), hl r0 (by simp), List.length_cons, Nat.add_mul]
    omega

/-- The j-th cell of element i. -/
theorem Reads.at {α : Type} {size : Nat} {f : α → List Value} {w : World} {v : Value} {rs : List α} (h : Reads w v size rs.length (rs.flatMap f)) (hl : ∀ r ∈ rs, (f r).length = size) {b off : Nat} {n cap : Nat}
    (hv : v = .slice (some ⟨b, off, none⟩) n cap) {i j : Nat} {r : α} {u : Value} (hi : rs[i]? = some r) (hj : (f r)[j]? = some u) : w.cell? ⟨b, off + (i * size + j), none⟩ = some u := by
  obtain ⟨_, _, a, cap', hv', _, _, h⟩ := h
  subst hv
  simp only [Value.slice.injEq] at hv'
  obtain ⟨ha, _, _⟩ := hv'
  have hpos : 0 < rs.length := by have := (List.getElem?_eq_some_iff.1 hi).1; omega
  obtain ⟨b', off', ha', hc⟩ := h hpos
  rw [← ha] at ha'
  simp only [Option.some.injEq, Addr.mk.injEq, and_true] at ha'
  obtain ⟨rfl, rfl⟩ := ha'
  apply hc
  have hjl : j < size := by
    have h1 := (List.getElem?_eq_some_iff.1 hj).1
    have h2 := hl r (List.mem_of_getElem? hi)
    omega
  rw [flat_at f rs hl i j r hi hjl]
  exact hj

section
variable {H : Type} {enc : TypeId × Value → H} {P : Program} {w : World} {base : Nat} {spare : Nat → Bool} {held : Bool}

theorem open_elems {α : Type} [Inhabited α] (f : α → List Value) {size : Nat} (hsz : 0 < size) (hl : ∀ r, (f r).length = size) {t e : TypeId} {fuel : Nat} {v : Value} {x : DataW H × List MemPlace} (ht : P.underlying t = some (.slice e)) (hC : P.cellsOf e = size)
    (hdec : ∀ n cs y, DataW.trod enc P w base spare held n e cs = some y → ∃ r, cs = f r) (h : DataW.trod enc P w base spare held fuel t [v] = some x) :
    ∃ rs : List α, Reads w v size rs.length (rs.flatMap f) := by
  rcases open_slice ht h with ⟨hcs, _⟩ | ⟨a, len, cap, m, n, D, Pl, hcs, hb, hle, hm, hmm, hx, hi⟩
  · simp only [List.cons.injEq, and_true] at hcs
    subst hcs
    exact ⟨[], by simp, by simp, none, 0, rfl, Nat.le_refl _, by unfold maxLen; omega, fun h => by simp at h⟩
  · simp only [List.cons.injEq, and_true] at hcs
    subst hcs
    rw [hC] at hi
    have hlm : len ≤ m := by rw [hmm]; split <;> omega
    obtain ⟨R, hR⟩ := choose_lt (α := α) (p := fun i r => w.cells? base (a.add (i * size)) size = some (f r)) (n := len) (fun i hi' => by
      obtain ⟨cs', h1, h2⟩ := hi i (by omega)
      obtain ⟨r, rfl⟩ := hdec _ _ _ h2
      exact ⟨r, h1⟩)
    have hlen : ((List.range len).map R).length = len := by simp
    refine ⟨(List.range len).map R, ?_, by rw [hlen]; omega, some a, cap, by rw [hlen], by rw [hlen]; exact hle, hm, ?_⟩
    · exact flat_len f _ (fun r _ => hl r)
    · intro hpos
      rw [hlen] at hpos
      have hcell : ∀ i, i < len → ∀ j, j < size → w.cell? (a.add (i * size + j)) = (f (R i))[j]? := by
        intro i hi' j hj
        obtain ⟨_, _, hat⟩ := World.cells?_some (hR i hi')
        rw [← hat j hj, add_add]
      have h0 := hcell 0 hpos 0 hsz
      have hf : (f (R 0))[0]? = some ((f (R 0))[0]'(by rw [hl]; exact hsz)) := List.getElem?_eq_getElem _
      rw [hf] at h0
      have hspot : a.spot = none := by simpa [Addr.add] using World.cell?_spot h0
      obtain ⟨b, off, sp⟩ := a
      simp only at hspot
      subst hspot
      refine ⟨b, off, rfl, ?_⟩
      intro j u hj
      have hjl : j < len * size := by
        have := (List.getElem?_eq_some_iff.1 hj).1
        rw [flat_len f _ (fun r _ => hl r), hlen] at this
        exact this
      have hq : j / size < len := (Nat.div_lt_iff_lt_mul hsz).2 hjl
      have hr : j % size < size := Nat.mod_lt _ hsz
      have ej : j / size * size + j % size = j := by rw [Nat.mul_comm]; exact Nat.div_add_mod j size
      have hc := hcell (j / size) hq (j % size) hr
      rw [add_plain, ej] at hc
      have hm' : ((List.range len).map R)[j / size]? = some (R (j / size)) := by simp [hq]
      rw [hc, ← flat_at f _ (fun r _ => hl r) (j / size) (j % size) _ hm' hr, ej]
      exact hj
end

/-- A record's four cells. -/
def Rec.cells (r : Rec) : List Value := [.int .i64 r.t, .int .i64 r.id, .string (bs r.c), .int .i64 r.p]
theorem Rec.cells_len (r : Rec) : r.cells.length = 4 := rfl
instance : Inhabited Rec := ⟨Rec.zero⟩
theorem cells_rec : Try.prog.cellsOf 96 = 4 := by kernel_rfl
theorem one_int : Try.prog.cellsOf 3 = 1 := by kernel_rfl
theorem one_string : Try.prog.cellsOf 9 = 1 := by kernel_rfl
theorem fields_rec : ∃ fs, Try.prog.underlying 96 = some (.struct fs) ∧ fs.size = 4 ∧ (fs[0]?).map (fun f => (f.type, f.offset)) = some (3, 0) ∧ (fs[1]?).map (fun f => (f.type, f.offset)) = some (3, 1) ∧
    (fs[2]?).map (fun f => (f.type, f.offset)) = some (9, 2) ∧ (fs[3]?).map (fun f => (f.type, f.offset)) = some (3, 3) := ⟨_, Try.underlying96, rfl, rfl, rfl, rfl, rfl⟩

section
variable {H : Type} {enc : TypeId × Value → H} {w : World} {base : Nat} {spare : Nat → Bool} {held : Bool}
/-- A field's cell, of one kind or another. -/
theorem field_int {n o : Nat} {fs : Array Field} {cs : List Value} {xs : List (DataW H × List MemPlace)} {i : Nat} (hf : (fs[i]?).map (fun f => (f.type, f.offset)) = some (3, o)) (hx : i < xs.length)
    (h : ∀ (i : Nat) (f : Field), fs[i]? = some f → DataW.trod enc Try.prog w base spare held n f.type ((cs.drop f.offset).take (Try.prog.cellsOf f.type)) = xs[i]?) : ∃ q, cs[o]? = some (.int .i64 q) ∧ (Lit.int .i64 q).wf = true := by
  obtain ⟨f, hfi, hfe⟩ := Option.map_eq_some_iff.1 hf
  simp only [Prod.mk.injEq] at hfe
  have := h i f hfi
  rw [hfe.1, hfe.2, one_int, List.getElem?_eq_getElem hx] at this
  obtain ⟨q, hq, _, hw⟩ := DataW.trod_int Try.underlying3 this
  refine ⟨q, ?_, hw⟩
  have e := congrArg (fun l => l[0]?) hq
  simpa using e
theorem field_string {n o : Nat} {fs : Array Field} {cs : List Value} {xs : List (DataW H × List MemPlace)} {i : Nat} (hf : (fs[i]?).map (fun f => (f.type, f.offset)) = some (9, o)) (hx : i < xs.length)
    (h : ∀ (i : Nat) (f : Field), fs[i]? = some f → DataW.trod enc Try.prog w base spare held n f.type ((cs.drop f.offset).take (Try.prog.cellsOf f.type)) = xs[i]?) : ∃ c : ByteArray, cs[o]? = some (.string c) ∧ c.size ≤ maxLen := by
  obtain ⟨f, hfi, hfe⟩ := Option.map_eq_some_iff.1 hf
  simp only [Prod.mk.injEq] at hfe
  have := h i f hfi
  rw [hfe.1, hfe.2, one_string, List.getElem?_eq_getElem hx] at this
  obtain ⟨c, hq, _, hw⟩ := DataW.trod_string Try.underlying9 this
  refine ⟨c, ?_, hw⟩
  have e := congrArg (fun l => l[0]?) hq
  simpa using e

/-- What is known of a record that came in. -/
def Rec.Fit (r : Rec) : Prop := (Lit.int .i64 r.t).wf = true ∧ (Lit.int .i64 r.id).wf = true ∧ r.c.length ≤ 9223372036854775807 ∧ (Lit.int .i64 r.p).wf = true
theorem dec_rec {n : Nat} {cs : List Value} {y : DataW H × List MemPlace} (h : DataW.trod enc Try.prog w base spare held n 96 cs = some y) : ∃ r : Rec, cs = r.cells ∧ r.Fit := by
  obtain ⟨fs, hu, hsz, f0, f1, f2, f3⟩ := fields_rec
  obtain ⟨xs, m, _, _, hlen, hxl, hf⟩ := DataW.trod_struct hu h
  rw [cells_rec] at hlen
  rw [hsz] at hxl
  obtain ⟨q0, e0, w0⟩ := field_int f0 (by omega) hf
  obtain ⟨q1, e1, w1⟩ := field_int f1 (by omega) hf
  obtain ⟨q2, e2, w2⟩ := field_string f2 (by omega) hf
  obtain ⟨q3, e3, w3⟩ := field_int f3 (by omega) hf
  have hl2 : q2.data.toList.length ≤ 9223372036854775807 := by
    unfold maxLen at w2
    have : q2.data.toList.length = q2.size := Array.length_toList
    omega
  refine ⟨⟨q0, q1, q2.data.toList, q3⟩, ?_, w0, w1, hl2, w3⟩
  apply List.ext_getElem?
  intro j
  match j with
  | 0 => rw [e0]; rfl
  | 1 => rw [e1]; rfl
  | 2 => rw [e2]; show some (Value.string q2) = some (.string (bs q2.data.toList)); rw [← bs_of]
  | 3 => rw [e3]; rfl
  | j + 4 => rw [List.getElem?_eq_none (by omega)]; rfl

/-- A slice of records that came in. -/
theorem open_recs {fuel : Nat} {v : Value} {x : DataW H × List MemPlace} (h : DataW.trod enc Try.prog w base spare held fuel 84 [v] = some x) :
    ∃ rs : List Rec, Reads w v 4 rs.length (rs.flatMap Rec.cells) ∧ ∀ r ∈ rs, r.Fit := by
  let α := { r : Rec // r.Fit }
  have hz : Rec.zero.Fit := ⟨by decide, by decide, by simp [Rec.zero], by decide⟩
  letI : Inhabited α := ⟨⟨Rec.zero, hz⟩⟩
  obtain ⟨rs, hr⟩ := open_elems (α := α) (fun r => r.1.cells) (by decide) (fun r => rfl) Try.underlying84 cells_rec (fun n cs y hy => by
    obtain ⟨r, e, hF⟩ := dec_rec hy
    exact ⟨⟨r, hF⟩, e⟩) h
  refine ⟨rs.map (·.1), ?_, ?_⟩
  · simpa [List.flatMap_map] using hr
  · intro r hm
    obtain ⟨q, _, rfl⟩ := List.mem_map.1 hm
    exact q.2
end
end Go.Proofs.Ytihfibelklhkbaa
