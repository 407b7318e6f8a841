/- A slice of pairs that came in: opened to a list of texts; a row read again in a later world. No condition. -/
import Derived.Test.YtihfibelklhkbaaOpen
import Derived.Test.YtihfibelklhkbaaPairs
namespace Go.Proofs.Ytihfibelklhkbaa
open Go.RowKit Go.ChangeShapes Go.WideShapes Go.Deep

theorem Reads.later {w w' : World} {v : Value} {size n : Nat} {xs : List Value} (h : Reads w v size n xs) (hs : 0 < size) (hb : Below w.heap.size w w') : Reads w' v size n xs := by
  obtain ⟨h1, h2, a, cap, hv, h3, h4, h⟩ := h
  refine ⟨h1, h2, a, cap, hv, h3, h4, fun hn => ?_⟩
  obtain ⟨b, off, ha, hc⟩ := h hn
  refine ⟨b, off, ha, fun j u hj => ?_⟩
  have h5 := hc j u hj
  have hlt : b < w.heap.size := by
    rcases Nat.lt_or_ge b w.heap.size with hlt | hge
    · exact hlt
    · simp [World.cell?, Array.getElem?_eq_none hge] at h5
  rw [hb.cell hlt]
  exact h5

/-- The row's address, its cells, and that its block is an old one. -/
theorem Reads.opened {α : Type} {size : Nat} {f : α → List Value} {w : World} {v : Value} {rs : List α} (h : Reads w v size rs.length (rs.flatMap f)) (hl : ∀ r ∈ rs, (f r).length = size) (hs : 0 < size) :
    ∃ (a : Option Addr) (cap : Nat), v = .slice a rs.length cap ∧ (0 < rs.length → ∃ b off, a = some ⟨b, off, none⟩ ∧ b < w.heap.size ∧ ∀ i (hi : i < rs.length) j u, (f rs[i])[j]? = some u → w.cell? ⟨b, off + (i * size + j), none⟩ = some u) := by
  have h' := h
  obtain ⟨h1, h2, a, cap, hv, h3, h4, h⟩ := h
  refine ⟨a, cap, hv, fun hn => ?_⟩
  obtain ⟨b, off, ha, hc⟩ := h hn
  subst ha
  have hat : ∀ i (hi : i < rs.length) j u, (f rs[i])[j]? = some u → w.cell? ⟨b, off + (i * size + j), none⟩ = some u := fun i hi j u hj => h'.at hl hv (List.getElem?_eq_getElem hi) hj
  refine ⟨b, off, rfl, ?_, hat⟩
  have hl0 := hl rs[0] (List.getElem_mem hn)
  have h5 := hat 0 hn 0 _ (List.getElem?_eq_getElem (by omega))
  rcases Nat.lt_or_ge b w.heap.size with hlt | hge
  · exact hlt
  · simp [World.cell?, Array.getElem?_eq_none hge] at h5

theorem own_reads {B size : Nat} {e : TypeId} {n : Nat} {xs : List Value} {v : Value} {w : World} (h : w.ownsRow B e size v n xs) : Reads w v size n xs := by
  obtain ⟨h1, h2⟩ := h
  rcases h2 with ⟨rfl, rfl⟩ | ⟨g, cap, cur, rfl, hb, hg, h3, h4, h5, h6⟩
  · exact ⟨h1, Nat.zero_le _, none, 0, rfl, Nat.le_refl _, Nat.zero_le _, fun h => by omega⟩
  · refine ⟨h1, Nat.le_trans h3 h4, _, cap, rfl, h3, h4, fun _ => ⟨g, 0, rfl, fun j u hj => ?_⟩⟩
    rw [Nat.zero_add, box_cells hg, ← Array.getElem?_toList]
    rw [← h6] at hj
    rw [List.getElem?_take] at hj
    split at hj
    · exact hj
    · cases hj

theorem cells_pair : Try.prog.cellsOf 115 = 2 := by kernel_rfl
theorem fields_pair : ∃ fs, Try.prog.underlying 115 = some (.struct fs) ∧ fs.size = 2 ∧ (fs[0]?).map (fun f => (f.type, f.offset)) = some (9, 0) ∧ (fs[1]?).map (fun f => (f.type, f.offset)) = some (9, 1) := ⟨_, Try.underlying115, rfl, rfl, rfl⟩
theorem pairCells_len (p : Bs × Bs) : (pairCells p).length = 2 := rfl

section
variable {H : Type} {enc : TypeId × Value → H} {w : World} {base : Nat} {spare : Nat → Bool} {held : Bool}
def PairFit (p : Bs × Bs) : Prop := p.1.length ≤ maxLen ∧ p.2.length ≤ maxLen
theorem dec_pair {n : Nat} {cs : List Value} {y : DataW H × List MemPlace} (h : DataW.trod enc Try.prog w base spare held n 115 cs = some y) : ∃ p : Bs × Bs, cs = pairCells p ∧ PairFit p := by
  obtain ⟨fs, hu, hsz, f0, f1⟩ := fields_pair
  obtain ⟨xs, m, _, _, hlen, hxl, hf⟩ := DataW.trod_struct hu h
  rw [cells_pair] at hlen
  rw [hsz] at hxl
  obtain ⟨q0, e0, w0⟩ := field_string f0 (by omega) hf
  obtain ⟨q1, e1, w1⟩ := field_string f1 (by omega) hf
  have e : ∀ q : ByteArray, q.data.toList.length = q.size := fun q => Array.length_toList
  refine ⟨⟨q0.data.toList, q1.data.toList⟩, ?_, by rw [e]; exact w0, by rw [e]; exact w1⟩
  apply List.ext_getElem?
  intro j
  match j with
  | 0 => rw [e0]; show some (Value.string q0) = some (.string (bs q0.data.toList)); rw [← bs_of]
  | 1 => rw [e1]; show some (Value.string q1) = some (.string (bs q1.data.toList)); rw [← bs_of]
  | j + 2 => rw [List.getElem?_eq_none (by omega)]; rfl

/-- A slice of pairs that came in. -/
theorem open_pairs {fuel : Nat} {v : Value} {x : DataW H × List MemPlace} (h : DataW.trod enc Try.prog w base spare held fuel 44 [v] = some x) :
    ∃ rs : List (Bs × Bs), Reads w v 2 rs.length (rs.flatMap pairCells) ∧ ∀ r ∈ rs, PairFit r := by
  let α := { r : Bs × Bs // PairFit r }
  have hz : PairFit ([], []) := ⟨by simp, by simp⟩
  letI : Inhabited α := ⟨⟨([], []), hz⟩⟩
  obtain ⟨rs, hr⟩ := open_elems (α := α) (fun r => pairCells r.1) (by decide) (fun r => rfl) Try.underlying44 cells_pair (fun n cs y hy => by
    obtain ⟨r, e, hF⟩ := dec_pair hy
    exact ⟨⟨r, hF⟩, e⟩) h
  refine ⟨rs.map (·.1), ?_, ?_⟩
  · simpa [List.flatMap_map] using hr
  · intro r hm
    obtain ⟨q, _, rfl⟩ := List.mem_map.1 hm
    exact q.2
end
end Go.Proofs.Ytihfibelklhkbaa
