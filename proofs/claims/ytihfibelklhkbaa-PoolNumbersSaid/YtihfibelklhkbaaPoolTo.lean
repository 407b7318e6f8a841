/- What (*pool.Pool).to computes, where all connections are the backend's. Condition: the pool in memory. -/
import Derived.Test.YtihfibelklhkbaaPoolOps
namespace Go.Proofs.Ytihfibelklhkbaa
open Go.RowKit

theorem mdead_any (w : World) (m lb ids k : Nat) (h : MuxAt w m lb ids k) :
    Calls Try.prog 27 #[.pointer (some ⟨m, 0, none⟩)] w fun e w' => e = .returned (.bool false) ∧ w' = w := by
  obtain ⟨⟨cb, hb⟩, _⟩ := h
  have c6 := box_cells hb 6
  have z := box_lt hb
  go_enter Try.func27, Try.ntmps27
  go_wp2_with fail
  go_ret
  exact ⟨rfl, rfl⟩
theorem MuxAt.drew {w : World} {m lb ids k : Nat} (h : MuxAt w m lb ids k) (n : Nat) : MuxAt (w.drewN n) m lb ids k := h.move rfl rfl

set_option maxRecDepth 100000 in
set_option maxHeartbeats 4000000 in
theorem toclo_same (B : Nat) (w : World) (pb : Nat) (S : Pl) (h : PoolAt B w pb S) (c : Cn) (hc : c ∈ S.l) (p q : Nat) (hp : w.heap[p]? = some (.cells #[.pointer (some ⟨pb, 0, none⟩)] 23)) (hq : w.heap[q]? = some (.cells #[.int .i64 (c.b : Int)] 3)) :
    Calls Try.prog 26 #[.int .i64 (c.n : Int), .pointer (some ⟨p, 0, none⟩), .pointer (some ⟨q, 0, none⟩)] w fun e w' => e = .returned (.bool false) ∧ ∃ n, w' = w.drewN n := by
  obtain ⟨mb, mo, lo, h⟩ := h
  have c3 := box_cells h.box 3
  have z := box_lt h.box
  have p0 := box_cells hp 0
  have q0 := box_cells hq 0
  have zp := box_lt hp
  have zq := box_lt hq
  have hlk := fun n => (h.keep (below_drewN (Below.refl w.heap.size w) n)).look hc
  have hf0 := con_field0
  have hf1 := con_field1
  have hm := fun n => mdead_any (w.drewN n) _ _ _ _ ((h.mux c hc).drew n)
  go_enter Try.func26, Try.ntmps26
  go_wp2_with fail
  go_quiet (first | (go_at_call 27; refine Calls.quiet_of_same (hm _)))
  go_wp2_with fail
  go_ret
  exact ⟨rfl, _, rfl⟩

set_option maxRecDepth 100000 in
set_option maxHeartbeats 4000000 in
theorem indexf_none (B C : Nat) (w : World) (pb : Nat) (S : Pl) (h : PoolAt B w pb S) (b : Nat) (hall : ∀ c ∈ S.l, c.b = b) (p q : Nat) (hp : w.heap[p]? = some (.cells #[.pointer (some ⟨pb, 0, none⟩)] 23)) (hq : w.heap[q]? = some (.cells #[.int .i64 (b : Int)] 3))
    (a : Option Addr) (cap : Nat) (hrow : w.ownsRow C 3 1 (.slice a S.l.length cap) S.l.length ((S.l.map (fun c => (c.n : Int))).map (Value.int .i64))) :
    Calls Try.prog 34 #[.slice a S.l.length cap, .func (.func 26) #[] #[.pointer (some ⟨p, 0, none⟩), .pointer (some ⟨q, 0, none⟩)]] w fun e w' => e = .returned (.int .i64 (-1)) ∧ Below w.heap.size w w' := by
  have hlen : S.l.length ≤ 1000 := by
    obtain ⟨_, _, _, h⟩ := h
    exact h.ok.len
  go_enter Try.func34, Try.ntmps34
  go_wp2_with fail
  go_loopw [8] (fun i wr => ∃ j : Nat, j ≤ S.l.length ∧ i = .int .i64 j ∧ Below w.heap.size w wr) (fun i _ => S.l.length - (zOf i).toNat)
  case atStart => exact ⟨0, Nat.zero_le _, rfl, Below.refl _ _⟩
  case round =>
    obtain ⟨j, hj, rfl, hW⟩ := hrel
    by_cases hlt : j < S.l.length
    · obtain ⟨g, cap', hv, hgB, hgl, hc⟩ := own_open hrow (by omega)
      obtain ⟨rfl, rfl⟩ : a = some ⟨g, 0, none⟩ ∧ cap = cap' := by simpa using hv
      have d0 := hc j (.int .i64 (S.l[j].n : Int)) (by simp [hlt])
      rw [← hW.cell hgl] at d0
      have hgl2 := Nat.lt_of_lt_of_le hgl hW.size
      have q1 : decide ((j : Int) < (S.l.length : Int)) = true := decide_eq_true (by omega)
      have q2 : decide ((j : Int) < 0) = false := decide_eq_false (by omega)
      have q3 : decide ((S.l.length : Int) ≤ (j : Int)) = false := decide_eq_false (by omega)
      have hpk := kept hp hW
      have hqk := kept hq hW
      have hmem : S.l[j] ∈ S.l := List.getElem_mem hlt
      have hbj := hall _ hmem
      rw [← hbj] at hqk
      have hcl := toclo_same B wr pb S (h.keep hW) S.l[j] hmem p q hpk hqk
      generalize S.l[j] = cj at *
      go_wp2_with fail
      refine hcl.mono ?_
      rintro e w2 ⟨rfl, nq, rfl⟩
      go_wp2_with fail
      go_roundw
      case rel => exact ⟨j + 1, by omega, by go_num, below_drewN hW _⟩
      case measure => simp [zOf]; omega
    · obtain rfl : j = S.l.length := by omega
      go_wp2_with fail
      go_ret
      exact ⟨rfl, hW⟩
set_option maxRecDepth 100000 in
set_option maxHeartbeats 4000000 in
theorem delf_none (B C : Nat) (w : World) (pb : Nat) (S : Pl) (h : PoolAt B w pb S) (b : Nat) (hall : ∀ c ∈ S.l, c.b = b) (p q : Nat) (hp : w.heap[p]? = some (.cells #[.pointer (some ⟨pb, 0, none⟩)] 23)) (hq : w.heap[q]? = some (.cells #[.int .i64 (b : Int)] 3))
    (a : Option Addr) (cap : Nat) (hrow : w.ownsRow C 3 1 (.slice a S.l.length cap) S.l.length ((S.l.map (fun c => (c.n : Int))).map (Value.int .i64))) :
    Calls Try.prog 25 #[.slice a S.l.length cap, .func (.func 26) #[] #[.pointer (some ⟨p, 0, none⟩), .pointer (some ⟨q, 0, none⟩)]] w fun e w' => e = .returned (.slice a S.l.length cap) ∧ Below w.heap.size w w' := by
  have hI := indexf_none B C w pb S h b hall p q hp hq a cap hrow
  clear hrow hall hp hq h
  generalize S.l.length = n at *
  go_enter Try.func25, Try.ntmps25
  go_wp2_with fail
  refine hI.mono ?_
  rintro e w1 ⟨rfl, W1⟩
  go_wp2_with fail
  go_ret
  exact ⟨rfl, W1⟩
set_option maxRecDepth 100000 in
set_option maxHeartbeats 4000000 in
theorem to_all (B : Nat) (w : World) (pb : Nat) (S : Pl) (h : PoolAt B w pb S) (b : Nat) (hall : ∀ c ∈ S.l, c.b = b) :
    Calls Try.prog 16 #[.pointer (some ⟨pb, 0, none⟩), .int .i64 (b : Int)] w fun e w' => ∃ v, e = .returned v ∧ w'.ownsRow w.heap.size 3 1 v S.l.length ((S.l.map (fun c => (c.n : Int))).map (Value.int .i64)) ∧ Below w.heap.size w w' := by
  have W1 := below_alloc w (.cells #[.pointer (some ⟨pb, 0, none⟩)] 23)
  have W2 := below_later W1 (below_alloc (w.alloc (.cells #[.pointer (some ⟨pb, 0, none⟩)] 23)) (.cells #[.int .i64 (b : Int)] 3))
  have e0 : ((w.alloc (.cells #[.pointer (some ⟨pb, 0, none⟩)] 23)).alloc (.cells #[.int .i64 (b : Int)] 3)).heap[w.heap.size]? = some (.cells #[.pointer (some ⟨pb, 0, none⟩)] 23) := keep_new _ (heap_alloc_new _ _)
  have e1 : ((w.alloc (.cells #[.pointer (some ⟨pb, 0, none⟩)] 23)).alloc (.cells #[.int .i64 (b : Int)] 3)).heap[w.heap.size + 1]? = some (.cells #[.int .i64 (b : Int)] 3) := by
    rw [show w.heap.size + 1 = (w.alloc (.cells #[.pointer (some ⟨pb, 0, none⟩)] 23)).heap.size by simp]
    exact heap_alloc_new _ _
  have hC := pconns_any B _ pb S (h.keep W2)
  have k0 := box_cells e0 0
  have z0 := box_lt e0
  go_enter Try.func16, Try.ntmps16
  go_wp2_with fail
  refine hC.mono ?_
  rintro e w3 ⟨v, rfl, hrow, W3⟩
  obtain ⟨va, vc, rfl⟩ := own_slice hrow
  have W4 := below_later W2 W3
  have hD := delf_none B _ w3 pb S (h.keep W4) b hall w.heap.size (w.heap.size + 1) (kept e0 W3) (kept e1 W3) va vc hrow
  go_wp2_with fail
  refine hD.mono ?_
  rintro e w5 ⟨rfl, W5⟩
  go_wp2_with fail
  go_ret
  exact ⟨_, rfl, own_kept (own_low hrow W2.size) W5, below_later W4 W5⟩
end Go.Proofs.Ytihfibelklhkbaa
