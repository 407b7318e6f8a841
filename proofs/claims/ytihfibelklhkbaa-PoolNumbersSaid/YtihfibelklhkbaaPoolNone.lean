/- What (*pool.Pool).to computes, where no connection is the backend's; what choose computes. Conditions: the pool in memory; connections of row's numbers. -/
import Derived.Test.YtihfibelklhkbaaPoolTo
namespace Go.Proofs.Ytihfibelklhkbaa
open Go.RowKit

/-- Numbers up to 2000, as ints. -/
def encF (x : Fin 2000) : Value := .int .i64 (x.val : Int)
instance : Inhabited (Fin 2000) := ⟨0⟩

set_option maxRecDepth 100000 in
set_option maxHeartbeats 4000000 in
theorem toclo_other (B : Nat) (w : World) (pb : Nat) (S : Pl) (h : PoolAt B w pb S) (b : Nat) (h0 : b ≠ 0) (hall : ∀ c ∈ S.l, c.b ≠ b) (x : Fin 2000) (p q : Nat) (hp : w.heap[p]? = some (.cells #[.pointer (some ⟨pb, 0, none⟩)] 23)) (hq : w.heap[q]? = some (.cells #[.int .i64 (b : Int)] 3)) :
    Calls Try.prog 26 #[encF x, .pointer (some ⟨p, 0, none⟩), .pointer (some ⟨q, 0, none⟩)] w fun e w' => e = .returned (.bool true) ∧ ∃ n, w' = w.drewN n := by
  obtain ⟨mb, mo, lo, h⟩ := h
  unfold encF
  have c3 := box_cells h.box 3
  have z := box_lt h.box
  have p0 := box_cells hp 0
  have q0 := box_cells hq 0
  have zp := box_lt hp
  have zq := box_lt hq
  have hx : (Lit.int .i64 (x.val : Int)).wf = true := wf_small (by omega) (by omega)
  obtain ⟨ad, b', hb', hlk⟩ : ∃ (ad : Option Addr) (b' : Int), (b' != (b : Int)) = true ∧ ∀ n, (Instr.lookup 41 (.map (some mb)) (.int .i64 (x.val : Int)) false).run Try.prog (w.drewN n) = .ok (.agg #[.pointer ad, .int .i64 b']) (w.drewN n) := by
    have hl := fun n => (h.map.kept (below_drewN (Below.refl w.heap.size w) n)).look Try.underlying41 (con_zero (w.drewN n)) hx
    cases e : findC S.l (x.val : Int) with
    | none =>
      rw [show conF S.l mo (x.val : Int) = none from by unfold conF; rw [e]; rfl] at hl
      exact ⟨none, 0, by simp; omega, hl⟩
    | some c =>
      rw [show conF S.l mo (x.val : Int) = some (some (mo c.n), (c.b : Int)) from by unfold conF; rw [e]; rfl] at hl
      exact ⟨some ⟨mo c.n, 0, none⟩, c.b, by have := hall c (find_some e).1; simp; omega, hl⟩
  have hf0 := con_field0
  have hf1 := con_field1
  go_enter Try.func26, Try.ntmps26
  go_wp2_with fail
  go_quiet (fail)
  go_wp2_with fail
  go_ret
  exact ⟨rfl, _, rfl⟩

theorem below_sort {α : Type} [Inhabited α] (enc : α → Value) (w0 w : World) (g n : Nat) (dk : Array α) (os : Array Obj) (h : Below w0.heap.size w0 w) (hg : w0.heap.size ≤ g) : Below w0.heap.size w0 (sortWorld enc w g 0 n dk os) := by
  refine ⟨h.os, h.tape, h.output, ?_, fun k hk => ?_⟩
  · have := h.size
    unfold sortWorld
    rw [Sort.size_grow, Sort.size_putRow]
    exact Nat.le_trans this (Nat.le_add_right _ _)
  · have hk2 := Nat.lt_of_lt_of_le hk h.size
    unfold sortWorld
    rw [Sort.heap_grow_old _ _ (by rw [Sort.size_putRow]; exact hk2), ← h.block k hk]
    unfold Sort.putRow Sort.mapBlock
    show (w.heap.modify g _)[k]? = w.heap[k]?
    rw [Array.getElem?_modify, if_neg (by omega)]

set_option maxRecDepth 100000 in
set_option maxHeartbeats 4000000 in
theorem to_none (B : Nat) (w : World) (pb : Nat) (S : Pl) (h : PoolAt B w pb S) (b : Nat) (h0 : b ≠ 0) (hall : ∀ c ∈ S.l, c.b ≠ b) (hl : 0 < S.l.length) :
    Calls Try.prog 16 #[.pointer (some ⟨pb, 0, none⟩), .int .i64 (b : Int)] w fun e w' => (∃ a cap, e = .returned (.slice a 0 cap)) ∧ Below w.heap.size w w' := by
  have W1 := below_alloc w (.cells #[.pointer (some ⟨pb, 0, none⟩)] 23)
  have W2 := below_later W1 (below_alloc (w.alloc (.cells #[.pointer (some ⟨pb, 0, none⟩)] 23)) (.cells #[.int .i64 (b : Int)] 3))
  have e0 : ((w.alloc (.cells #[.pointer (some ⟨pb, 0, none⟩)] 23)).alloc (.cells #[.int .i64 (b : Int)] 3)).heap[w.heap.size]? = some (.cells #[.pointer (some ⟨pb, 0, none⟩)] 23) := keep_new _ (heap_alloc_new _ _)
  have e1 : ((w.alloc (.cells #[.pointer (some ⟨pb, 0, none⟩)] 23)).alloc (.cells #[.int .i64 (b : Int)] 3)).heap[w.heap.size + 1]? = some (.cells #[.int .i64 (b : Int)] 3) := by
    rw [show w.heap.size + 1 = (w.alloc (.cells #[.pointer (some ⟨pb, 0, none⟩)] 23)).heap.size by simp]
    exact heap_alloc_new _ _
  have hP2 := h.keep W2
  have hC := pconns_any B _ pb S hP2
  have k0 := box_cells e0 0
  have z0 := box_lt e0
  have hok : S.Ok := by obtain ⟨_, _, _, h⟩ := h; exact h.ok
  have hlen := hok.len
  go_enter Try.func16, Try.ntmps16
  go_wp2_with fail
  generalize ((w.alloc (.cells #[.pointer (some ⟨pb, 0, none⟩)] 23)).alloc (.cells #[.int .i64 (b : Int)] 3)) = w2 at *
  refine hC.mono ?_
  rintro e w3 ⟨v, rfl, hrow, W3⟩
  obtain ⟨g, cap, rfl, hg, hgl, hc⟩ := own_open hrow hl
  obtain ⟨cur, hcur, hcap⟩ : ∃ cur, w3.heap[g]? = some (.cells cur 3 (0, 0)) ∧ S.l.length ≤ cap := by
    rcases hrow.2 with ⟨_, hn⟩ | ⟨g', cap', cur, hv, _, hh, hcc, _⟩
    · omega
    · simp only [Value.slice.injEq, Option.some.injEq, Addr.mk.injEq, and_true, true_and] at hv
      obtain ⟨rfl, rfl⟩ := hv
      exact ⟨cur, hh, hcc⟩
  have W4 := W2.trans (W3.mono W2.size)
  have hH : Sort.Holds encF w3 g 0 (S.l.map (fun c => Fin.ofNat 2000 c.n)).toArray := by
    intro j hj
    have hj' : j < S.l.length := by simpa using hj
    have hm := hok.low S.l[j] (List.getElem_mem hj')
    have hlast := hok.last
    refine ⟨?_, by rw [Nat.zero_add]; exact box_free hcur j⟩
    rw [Nat.zero_add, hc j (.int .i64 (S.l[j].n : Int)) (by simp [hj'])]
    rw [getElem!_pos _ j hj]
    simp only [encF, List.getElem_toArray, List.getElem_map, Fin.ofNat]
    rw [Nat.mod_eq_of_lt (by omega)]
  have hsz : (S.l.map (fun c => Fin.ofNat 2000 c.n)).toArray.size = S.l.length := by simp
  have eg : ∀ args w, (callFunc 26 args).run Try.prog w = .ok (.enter 26 args) w := enters_of Try.func26 (by kernel_rfl) rfl
  have hcon := AnyE.slices_DeleteFunc Try.delA encF (fun _ => rfl) (fun _ => true) 26 #[.pointer (some ⟨w.heap.size, 0, none⟩), .pointer (some ⟨w.heap.size + 1, 0, none⟩)] eg 0 Try.zeroValue3 g 0 cap (S.l.map (fun c => Fin.ofNat 2000 c.n)).toArray w3
    (fun W x hb => toclo_other B W pb S (hP2.keep (W3.trans (hb.mono W3.size))) b h0 hall x _ _ (kept e0 (W3.trans (hb.mono W3.size))) (kept e1 (W3.trans (hb.mono W3.size))))
    (fun n os dk x _ => toclo_other B _ pb S (hP2.keep (below_sort encF w2 w3 g n dk os W3 hg)) b h0 hall x _ _ (kept e0 (below_sort encF w2 w3 g n dk os W3 hg)) (kept e1 (below_sort encF w2 w3 g n dk os W3 hg)))
    hH (by rw [hsz]; omega) (by rw [hsz]; exact hcap)
  rw [hsz] at hcon
  change Calls Try.prog 25 _ _ _ at hcon
  have hff : ∀ l : List (Fin 2000), l.filter (fun _ => false) = [] := fun l => by simp
  simp only [Bool.not_true, hff, List.length_nil, List.nil_append, Nat.sub_zero] at hcon
  have HC := Lib.hid hcon
  clear hcon hH hsz hc
  go_wp2_with fail
  refine HC.out.mono ?_
  rintro e w5 ⟨rfl, nq, rfl⟩
  go_wp2_with fail
  go_ret
  refine ⟨⟨_, _, rfl⟩, ?_⟩
  have := below_sort encF w2 w3 g nq (List.replicate S.l.length (0 : Fin 2000)).toArray #[] W3 hg
  unfold sortWorld at this
  rw [Sort.grow_empty] at this
  exact W2.trans (this.mono W2.size)
end Go.Proofs.Ytihfibelklhkbaa
