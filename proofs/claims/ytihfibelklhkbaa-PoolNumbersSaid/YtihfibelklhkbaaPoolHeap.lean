/- A pool's box in memory; what Conns, live, Mux, Backend compute of it. Conditions: the pool in memory; at most a thousand connections. -/
import Derived.Test.YtihfibelklhkbaaPoolPlain
import Derived.Test.YtihfibelklhkbaaLive
namespace Go.Proofs.Ytihfibelklhkbaa
open Go.RowKit Go.Maps Go.Sort Go.Shelf

abbrev poolObj (bk cs ids mb last : Nat) : Obj := .cells #[.int .i64 (bk : Int), .int .i64 (cs : Int), .int .i64 (ids : Int), .map (some mb), .int .i64 (last : Int)] 43
/-- How a pool's map reads. -/
def conF (L : List Cn) (mo : Nat → Nat) : Int → Option ECon.α := fun i => (findC L i).map (fun c => (some (mo c.n), (c.b : Int)))
structure PoolH (B : Nat) (w : World) (pb mb : Nat) (mo lo : Nat → Nat) (S : Pl) : Prop where
  ok : S.Ok
  base : B ≤ w.heap.size
  box : w.heap[pb]? = some (poolObj S.bk S.cs S.ids mb S.last)
  map : GMap ECon w mb S.last (conF S.l mo)
  mux : ∀ c ∈ S.l, MuxAt w (mo c.n) (lo c.n) S.ids c.k
  apart : ∀ a ∈ S.l, ∀ b ∈ S.l, a.n ≠ b.n → mo a.n ≠ mo b.n ∧ lo a.n ≠ lo b.n
  lne : ∀ a ∈ S.l, lo a.n ≠ mb
  low : B ≤ pb ∧ B ≤ mb ∧ ∀ c ∈ S.l, B ≤ mo c.n ∧ B ≤ lo c.n
/-- Block pb is a pool. -/
def PoolAt (B : Nat) (w : World) (pb : Nat) (S : Pl) : Prop := ∃ mb mo lo, PoolH B w pb mb mo lo S

theorem PoolH.keep {B : Nat} {w w' : World} {pb mb : Nat} {mo lo : Nat → Nat} {S : Pl} (h : PoolH B w pb mb mo lo S) (hb : Below w.heap.size w w') : PoolH B w' pb mb mo lo S where
  ok := h.ok
  base := Nat.le_trans h.base hb.size
  box := kept h.box hb
  map := h.map.kept hb
  mux := fun c hc => (h.mux c hc).kept hb
  apart := h.apart
  lne := h.lne
  low := h.low
theorem PoolAt.keep {B : Nat} {w w' : World} {pb : Nat} {S : Pl} (h : PoolAt B w pb S) (hb : Below w.heap.size w w') : PoolAt B w' pb S := by
  obtain ⟨mb, mo, lo, h⟩ := h
  exact ⟨mb, mo, lo, h.keep hb⟩
theorem con_zero (w : World) : (zeroValue 47).run Try.prog w = .ok (ECon.enc ECon.zero) w := by kernel_rfl
theorem con_field0 (x : Option Addr) (b : Int) (w : World) : (Instr.field 47 (.agg #[.pointer x, .int .i64 b]) 0).run Try.prog w = .ok (.pointer x) w := by kernel_rfl
theorem con_field1 (x : Option Addr) (b : Int) (w : World) : (Instr.field 47 (.agg #[.pointer x, .int .i64 b]) 1).run Try.prog w = .ok (.int .i64 b) w := by kernel_rfl
theorem wf_n {S : Pl} (h : S.Ok) {c : Cn} (hc : c ∈ S.l) : (Lit.int .i64 (c.n : Int)).wf = true := wf_small (by omega) (by have := h.low c hc; have := h.last; omega)

section
variable {B : Nat} {w : World} {pb mb : Nat} {mo lo : Nat → Nat} {S : Pl}
theorem PoolH.look (h : PoolH B w pb mb mo lo S) {c : Cn} (hc : c ∈ S.l) :
    (Instr.lookup 41 (.map (some mb)) (.int .i64 (c.n : Int)) false).run Try.prog w = .ok (.agg #[.pointer (some ⟨mo c.n, 0, none⟩), .int .i64 (c.b : Int)]) w := by
  have := h.map.look Try.underlying41 (con_zero w) (wf_n h.ok hc)
  rw [show conF S.l mo (c.n : Int) = some (some (mo c.n), (c.b : Int)) from by unfold conF; rw [find_mem h.ok.sorted hc]; rfl] at this
  exact this
theorem PoolH.look_ok (h : PoolH B w pb mb mo lo S) {c : Cn} (hc : c ∈ S.l) :
    (Instr.lookup 41 (.map (some mb)) (.int .i64 (c.n : Int)) true).run Try.prog w = .ok (.tuple #[.agg #[.pointer (some ⟨mo c.n, 0, none⟩), .int .i64 (c.b : Int)], .bool true]) w := by
  have := h.map.look_ok Try.underlying41 (con_zero w) (wf_n h.ok hc)
  rw [show conF S.l mo (c.n : Int) = some (some (mo c.n), (c.b : Int)) from by unfold conF; rw [find_mem h.ok.sorted hc]; rfl] at this
  exact this
theorem PoolH.lack (h : PoolH B w pb mb mo lo S) {i : Int} (hi : (Lit.int .i64 i).wf = true) (hc : ∀ c ∈ S.l, (c.n : Int) ≠ i) :
    (Instr.lookup 41 (.map (some mb)) (.int .i64 i) false).run Try.prog w = .ok (.agg #[.pointer none, .int .i64 0]) w := by
  have := h.map.look Try.underlying41 (con_zero w) hi
  rw [show conF S.l mo i = none from by unfold conF; rw [find_none hc]; rfl] at this
  exact this
theorem PoolH.lack_ok (h : PoolH B w pb mb mo lo S) {i : Int} (hi : (Lit.int .i64 i).wf = true) (hc : ∀ c ∈ S.l, (c.n : Int) ≠ i) :
    (Instr.lookup 41 (.map (some mb)) (.int .i64 i) true).run Try.prog w = .ok (.tuple #[.agg #[.pointer none, .int .i64 0], .bool false]) w := by
  have := h.map.look_ok Try.underlying41 (con_zero w) hi
  rw [show conF S.l mo i = none from by unfold conF; rw [find_none hc]; rfl] at this
  exact this
end

set_option maxHeartbeats 4000000 in
theorem pconns_any (B : Nat) (w : World) (pb : Nat) (S : Pl) (h : PoolAt B w pb S) :
    Calls Try.prog 8 #[.pointer (some ⟨pb, 0, none⟩)] w fun e w' => ∃ v, e = .returned v ∧ w'.ownsRow w.heap.size 3 1 v S.l.length ((S.l.map (fun c => (c.n : Int))).map (Value.int .i64)) ∧ Below w.heap.size w w' := by
  obtain ⟨mb, mo, lo, h⟩ := h
  have c3 := box_cells h.box 3
  have z := box_lt h.box
  obtain ⟨D0, hown, hL⟩ := h.map.fits (nums_sorted h.ok.sorted) (fun x hx => by obtain ⟨c, hc, rfl⟩ := List.mem_map.1 hx; exact wf_n h.ok hc) (fun x _ => by
    unfold conF
    constructor
    · intro hx; obtain ⟨c, hc, rfl⟩ := List.mem_map.1 hx; rw [find_mem h.ok.sorted hc]; rfl
    · intro hx
      cases e : findC S.l x with
      | none => rw [e] at hx; cases hx
      | some c => obtain ⟨h1, h2⟩ := find_some e; exact List.mem_map.2 ⟨c, h1, h2⟩)
  have hsz := size_keys hown.isMap hL
  rw [List.length_map] at hsz
  have hlen : S.l.length ≤ 1000 := by
    have h1 := hown.isMap
    obtain ⟨es, clock, hb, Ft, hs, hD⟩ := hown
    have h2 : Maps.size D0 = es.size := by
      rw [hD]
      show ((es.toList.map _).foldr DataW.insert []).length = _
      rw [length_sorted]
      simp
    have := h.ok.last
    omega
  have hsort := fun ss (hS : List.Perm ss (intKeys D0)) => sort_sorted (nums_sorted h.ok.sorted) (hS.trans hL.symm)
  have hslen := fun ss (hS : List.Perm ss (intKeys D0)) => (hS.trans hL.symm).length_eq
  have hln : (S.l.map (fun c => (c.n : Int))).length = S.l.length := List.length_map _
  generalize S.l.map (fun c => (c.n : Int)) = Ln at *
  generalize S.l.length = len at *
  refine (callsIn_wide (n := 6)).1 ?_
  have hbl := hown.lt
  have hseq : SeqGives Fence.wide 2 Try.prog 32 #[.pointer (some ⟨w.heap.size, 0, none⟩)] encZ (fun ss => ss.Perm (intKeys D0)) (Maps.size D0) (w.alloc (.cells #[.map (some mb)] 41)) :=
    AnyZI.keys_gives (ρ := Try.keys1_ren) { Try.keys1 with } Fence.wide _ trivial rfl (by omega) w.heap.size mb S.last D0 _ (by simp) (by simp) (by
      obtain ⟨es, clock, hb, Ft, hs, hD⟩ := hown
      exact ⟨es, clock, (Below.heap_alloc _ _ mb hbl).trans hb, Ft, hs, hD⟩)
  have cK : ∀ mb W, CallsIn Fence.wide 5 Try.prog 20 #[.map mb] W fun e w' => e = .returned (.func (.func 32) #[] #[.pointer (some ⟨W.heap.size, 0, none⟩)]) ∧ w' = W.alloc (.cells #[.map mb] 41) := fun mb W => AnyZI.keys_in Try.keys1 Fence.wide 5 trivial rfl mb W
  have cS := AnyZI.sorted_in Try.sortedA Fence.wide 5 trivial trivial trivial trivial rfl (by omega) (sortsA _) (enters_of Try.func31 (by kernel_rfl) rfl) 32 #[.pointer (some ⟨w.heap.size, 0, none⟩)] trivial (enters_of Try.func32 (by kernel_rfl) rfl) _ _ (by rw [hsz]; unfold maxLen; omega) (by rw [hsz]; omega) _ hseq
  change CallsIn _ _ Try.prog 19 _ _ _ at cS
  refine callsIn_of_wp Try.func8 rfl trivial ?_ rfl
  have hfK : Fence.wide.fn 20 := trivial
  have hfS : Fence.wide.fn 19 := trivial
  simp only [Try.ntmps8, List.size_toArray, List.length_cons, List.length_nil, Nat.reduceAdd, Nat.reduceSub, Array.replicate_succ, Array.replicate_zero, List.push_toArray, List.append_toArray, List.nil_append, List.cons_append]
  gi_wp2_with (first
    | (gi_at_call 20; refine (cK _ _).mono ?_; rintro e w' ⟨rfl, rfl⟩)
    | (gi_at_call 19; refine cS.mono ?_; rintro e w' ⟨v, ss, rfl, hS, hrow, hnil, hb⟩))
  go_ret
  rw [hsort ss hS, hslen ss hS, hln] at hrow
  exact ⟨v, rfl, ownsRow_base_a hrow (by simp), ((Below.refl _ w).alloc (Nat.le_refl _) _).trans (hb.mono (by simp))⟩

set_option maxRecDepth 100000 in
theorem plive_any (B : Nat) (w : World) (pb : Nat) (S : Pl) (h : PoolAt B w pb S) (c : Cn) (hc : c ∈ S.l) :
    Calls Try.prog 24 #[.pointer (some ⟨pb, 0, none⟩), .int .i64 (c.n : Int)] w fun e w' => e = .returned (.int .i64 (c.k : Int)) ∧ Below w.heap.size w w' := by
  obtain ⟨mb, mo, lo, h⟩ := h
  have c3 := box_cells h.box 3
  have z := box_lt h.box
  have hlk := h.look hc
  have hm := h.mux c hc
  have hk : c.k ≤ 8 := Nat.le_trans (h.ok.fits c hc) h.ok.ids.2
  have hf0 := con_field0
  go_enter Try.func24, Try.ntmps24
  go_wp2_with fail
  refine (mlive_any w _ _ _ _ hk hm).mono ?_
  rintro e w1 ⟨v, rfl, hrow, W1⟩
  obtain ⟨va, vc, rfl⟩ := own_slice hrow
  go_wp2_with fail
  go_ret
  exact ⟨rfl, W1⟩
set_option maxRecDepth 100000 in
theorem pmux_some (B : Nat) (w : World) (pb : Nat) (S : Pl) (h : PoolAt B w pb S) (c : Cn) (hc : c ∈ S.l) :
    Calls Try.prog 9 #[.pointer (some ⟨pb, 0, none⟩), .int .i64 (c.n : Int)] w fun e w' => (∃ m lb, e = .returned (.pointer (some ⟨m, 0, none⟩)) ∧ MuxAt w m lb S.ids c.k) ∧ w' = w := by
  obtain ⟨mb, mo, lo, h⟩ := h
  have c3 := box_cells h.box 3
  have z := box_lt h.box
  have hlk := h.look hc
  have hm := h.mux c hc
  have hf0 := con_field0
  go_enter Try.func9, Try.ntmps9
  go_wp2_with fail
  go_ret
  exact ⟨⟨_, _, rfl, hm⟩, rfl⟩
set_option maxRecDepth 100000 in
theorem pmux_none (B : Nat) (w : World) (pb : Nat) (S : Pl) (h : PoolAt B w pb S) (i : Int) (hi : (Lit.int .i64 i).wf = true) (hc : ∀ c ∈ S.l, (c.n : Int) ≠ i) :
    Calls Try.prog 9 #[.pointer (some ⟨pb, 0, none⟩), .int .i64 i] w fun e w' => e = .returned (.pointer none) ∧ w' = w := by
  obtain ⟨mb, mo, lo, h⟩ := h
  have c3 := box_cells h.box 3
  have z := box_lt h.box
  have hlk := h.lack hi hc
  have hf0 := con_field0
  go_enter Try.func9, Try.ntmps9
  go_wp2_with fail
  go_ret
  exact ⟨rfl, rfl⟩
set_option maxRecDepth 100000 in
theorem pback_some (B : Nat) (w : World) (pb : Nat) (S : Pl) (h : PoolAt B w pb S) (c : Cn) (hc : c ∈ S.l) :
    Calls Try.prog 14 #[.pointer (some ⟨pb, 0, none⟩), .int .i64 (c.n : Int)] w fun e w' => e = .returned (.int .i64 (c.b : Int)) ∧ Below w.heap.size w w' := by
  obtain ⟨mb, mo, lo, h⟩ := h
  have c3 := box_cells h.box 3
  have z := box_lt h.box
  have hlk := h.look_ok hc
  go_enter Try.func14, Try.ntmps14
  go_wp2_with fail
  go_ret
  exact ⟨rfl, below_alloc _ _⟩
set_option maxRecDepth 100000 in
theorem pback_none (B : Nat) (w : World) (pb : Nat) (S : Pl) (h : PoolAt B w pb S) (i : Int) (hi : (Lit.int .i64 i).wf = true) (hc : ∀ c ∈ S.l, (c.n : Int) ≠ i) :
    Calls Try.prog 14 #[.pointer (some ⟨pb, 0, none⟩), .int .i64 i] w fun e w' => e = .returned (.int .i64 (-1)) ∧ Below w.heap.size w w' := by
  obtain ⟨mb, mo, lo, h⟩ := h
  have c3 := box_cells h.box 3
  have z := box_lt h.box
  have hlk := h.lack_ok hi hc
  go_enter Try.func14, Try.ntmps14
  go_wp2_with fail
  go_ret
  exact ⟨rfl, below_alloc _ _⟩
end Go.Proofs.Ytihfibelklhkbaa
