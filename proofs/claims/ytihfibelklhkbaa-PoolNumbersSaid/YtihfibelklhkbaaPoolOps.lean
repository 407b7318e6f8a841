/- What Close, the closure of to, and to compute of a pool in memory. Conditions: the pool in memory. -/
import Derived.Test.YtihfibelklhkbaaPoolHeap
namespace Go.Proofs.Ytihfibelklhkbaa
open Go.RowKit

theorem g_cells_ne {w : World} {a b : Nat} {c d : Array Value} {s t : TypeId} {x y : Nat × Nat} (ha : w.heap[a]? = some (.cells c s x)) (hb : w.heap[b]? = some (.cells d t y)) (h : s ≠ t) : a ≠ b := by
  rintro rfl
  rw [ha] at hb
  simp at hb
  exact h hb.2.1
theorem g_map_ne {w : World} {a b : Nat} {c : Array Value} {s : TypeId} {x : Nat × Nat} {es : Array MapEntry} {n : Nat} (ha : w.heap[a]? = some (.cells c s x)) (hb : w.heap[b]? = some (.map es n)) : a ≠ b := by
  rintro rfl
  rw [ha] at hb
  cases hb
section
variable {B : Nat} {w : World} {pb mb : Nat} {mo lo : Nat → Nat} {S : Pl}
theorem PoolH.box_ne (h : PoolH B w pb mb mo lo S) : pb ≠ mb := by
  obtain ⟨es, cl, ho⟩ := h.map.obj
  exact g_map_ne h.box ho
theorem PoolH.mo_ne (h : PoolH B w pb mb mo lo S) {c : Cn} (hc : c ∈ S.l) : mo c.n ≠ mb ∧ mo c.n ≠ pb ∧ lo c.n ≠ pb := by
  obtain ⟨es, cl, ho⟩ := h.map.obj
  obtain ⟨⟨cb, hb⟩, f, hm, _⟩ := h.mux c hc
  obtain ⟨es2, cl2, ho2⟩ := hm.obj
  exact ⟨g_map_ne hb ho, g_cells_ne hb h.box (by decide), fun e => g_map_ne h.box ho2 e.symm⟩
theorem PoolH.mo_lo (h : PoolH B w pb mb mo lo S) {c d : Cn} (hc : c ∈ S.l) (hd : d ∈ S.l) : mo c.n ≠ lo d.n := by
  obtain ⟨⟨cb, hb⟩, _⟩ := h.mux c hc
  obtain ⟨_, f, hm, _⟩ := h.mux d hd
  obtain ⟨es2, cl2, ho2⟩ := hm.obj
  exact g_map_ne hb ho2
end

/-- Without a connection. -/
def dropC (L : List Cn) (n : Nat) : List Cn := L.filter (fun c => decide (c.n ≠ n))
theorem dropC_mem {L : List Cn} {n : Nat} {c : Cn} : c ∈ dropC L n ↔ c ∈ L ∧ c.n ≠ n := by simp [dropC, List.mem_filter]
theorem dropC_find (L : List Cn) (n : Nat) (i : Int) : findC (dropC L n) i = if i = (n : Int) then none else findC L i := by
  induction L with
  | nil => simp [dropC, findC]
  | cons a L ih =>
    unfold dropC findC at *
    rw [List.filter_cons]
    by_cases ha : a.n = n
    · rw [if_neg (by simp [ha]), ih, List.find?_cons]
      by_cases hi : i = (n : Int)
      · rw [if_pos hi, if_pos hi]
      · rw [if_neg hi, if_neg hi, show decide ((a.n : Int) = i) = false from decide_eq_false (by rw [ha]; exact fun e => hi e.symm)]
    · rw [if_pos (by simp [ha]), List.find?_cons, List.find?_cons]
      by_cases hi : (a.n : Int) = i
      · rw [show decide ((a.n : Int) = i) = true from decide_eq_true hi, if_neg (by omega)]
      · rw [show decide ((a.n : Int) = i) = false from decide_eq_false hi]
        exact ih
theorem Pl.Ok.drop {S : Pl} (h : S.Ok) (n : Nat) : Pl.Ok { S with l := dropC S.l n } where
  sorted := h.sorted.filter _
  low := fun c hc => h.low c (dropC_mem.1 hc).1
  fits := fun c hc => h.fits c (dropC_mem.1 hc).1
  ids := h.ids
  bk := h.bk
  cs := h.cs
  last := h.last

set_option maxRecDepth 100000 in
set_option maxHeartbeats 4000000 in
theorem pclose_some (B : Nat) (w : World) (pb : Nat) (S : Pl) (h : PoolAt B w pb S) (c : Cn) (hc : c ∈ S.l) :
    Calls Try.prog 11 #[.pointer (some ⟨pb, 0, none⟩), .int .i64 (c.n : Int)] w fun e w' => ∃ v, e = .returned v ∧ w'.ownsRow w.heap.size 3 1 v c.k ((upto c.k).map (Value.int .i64)) ∧ PoolAt B w' pb { S with l := dropC S.l c.n } ∧ Below B w w' := by
  obtain ⟨mb, mo, lo, h⟩ := h
  have c3 := box_cells h.box 3
  have z := box_lt h.box
  have hlk := h.look_ok hc
  have hk : c.k ≤ 8 := Nat.le_trans (h.ok.fits c hc) h.ok.ids.2
  have hwf := wf_n h.ok hc
  have hlt := h.map.lt
  have hne : w.heap.size ≠ mb := by omega
  obtain ⟨hn1, hn2, hn3⟩ := h.mo_ne hc
  have hbn := h.box_ne
  obtain ⟨w2, hrun, hm2, hon⟩ := (h.map.kept (below_alloc w (.cells #[.pointer (some ⟨mo c.n, 0, none⟩), .int .i64 (c.b : Int)] 47))).drop Try.underlying41 hwf 0
  have e2 := (hon.block _ (by simp) hne).trans (heap_alloc_new _ _)
  have k0 := box_cells e2 0
  have z2 := box_lt e2
  have hk' := h.keep (below_alloc w (.cells #[.pointer (some ⟨mo c.n, 0, none⟩), .int .i64 (c.b : Int)] 47))
  go_enter Try.func11, Try.ntmps11
  go_wp2_with fail
  have hmux : MuxAt w2 (mo c.n) (lo c.n) S.ids c.k := (hk'.mux c hc).step hon hn1 (h.lne c hc)
  refine (mlive_any w2 _ _ _ _ hk hmux).mono ?_
  rintro e w3 ⟨v, rfl, hrow, W3⟩
  obtain ⟨va, vc, rfl⟩ := own_slice hrow
  go_wp2_with fail
  go_ret
  have W2 : Below B w w2 := ((below_alloc w _).mono h.base).trans (only_base hon h.low.2.1 hk'.base)
  have hP : PoolH B w2 pb mb mo lo { S with l := dropC S.l c.n } := by
    refine ⟨h.ok.drop c.n, Nat.le_trans h.base W2.size, (hon.block pb (box_lt hk'.box) hbn).trans hk'.box, hm2.congr (fun i _ => ?_), fun d hd => ?_, fun a ha b hb => ?_, fun a ha => ?_, ?_⟩
    · unfold conF
      rw [dropC_find]
      split
      · rfl
      · rfl
    · have hd := (dropC_mem.1 hd).1
      exact (hk'.mux d hd).step hon (h.mo_ne hd).1 (h.lne d hd)
    · exact h.apart a (dropC_mem.1 ha).1 b (dropC_mem.1 hb).1
    · exact h.lne a (dropC_mem.1 ha).1
    · exact ⟨h.low.1, h.low.2.1, fun a ha => h.low.2.2 a (dropC_mem.1 ha).1⟩
  refine ⟨_, rfl, own_low hrow ?_, ⟨mb, mo, lo, hP.keep W3⟩, W2.trans (W3.mono hP.base)⟩
  have := hon.size
  simp at this
  omega
set_option maxRecDepth 100000 in
theorem pclose_none (B : Nat) (w : World) (pb : Nat) (S : Pl) (h : PoolAt B w pb S) (i : Int) (hi : (Lit.int .i64 i).wf = true) (hc : ∀ c ∈ S.l, (c.n : Int) ≠ i) :
    Calls Try.prog 11 #[.pointer (some ⟨pb, 0, none⟩), .int .i64 i] w fun e w' => e = .returned (.slice none 0 0) ∧ Below w.heap.size w w' := by
  obtain ⟨mb, mo, lo, h⟩ := h
  have c3 := box_cells h.box 3
  have z := box_lt h.box
  have hlk := h.lack_ok hi hc
  go_enter Try.func11, Try.ntmps11
  go_wp2_with fail
  go_ret
  exact ⟨rfl, below_alloc _ _⟩
end Go.Proofs.Ytihfibelklhkbaa
