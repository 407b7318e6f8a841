/- The reference's SameRecords at two rows of the same records: true. Condition: at most a milliard records. -/
import Derived.Test.YtbhdoechhfgpeaaRRRDoorRecRow
import Derived.BigQuiet
namespace Go.Proofs.YtbhdoechhfgpeaaRRRDoor
open Go.RowKit

set_option maxRecDepth 100000 in
set_option maxHeartbeats 4000000 in
theorem same_some (b off cap b2 off2 cap2 : Nat) (l : List Rec) (w : World) (hn : l.length ≤ 1000000000) 
    (hC : ∀ k (h : k < l.length), w.cell? ⟨b, off + k * 4, none⟩ = some (.int .i64 l[k].t) ∧ w.cell? ⟨b, off + k * 4 + 1, none⟩ = some (.int .i64 l[k].id) ∧ w.cell? ⟨b, off + k * 4 + 2, none⟩ = some (.string (bs l[k].c)) ∧ w.cell? ⟨b, off + k * 4 + 3, none⟩ = some (.int .i64 l[k].p))
    (hD : ∀ k (h : k < l.length), w.cell? ⟨b2, off2 + k * 4, none⟩ = some (.int .i64 l[k].t) ∧ w.cell? ⟨b2, off2 + k * 4 + 1, none⟩ = some (.int .i64 l[k].id) ∧ w.cell? ⟨b2, off2 + k * 4 + 2, none⟩ = some (.string (bs l[k].c)) ∧ w.cell? ⟨b2, off2 + k * 4 + 3, none⟩ = some (.int .i64 l[k].p)) :
    Calls Tryd.prog 12 #[.slice (some ⟨b, off, none⟩) l.length cap, .slice (some ⟨b2, off2, none⟩) l.length cap2] w fun e w' => e = .returned (.bool true) ∧ Below w.heap.size w w' := by
  have hcell : ∀ wr, Below w.heap.size w wr → ∀ (g o k : Nat) v, w.cell? ⟨g, o, none⟩ = some v → wr.cell? ⟨g, o, none⟩ = some v := by
    intro wr hbel g o k v h
    have hlt : g < w.heap.size := by
      rcases Nat.lt_or_ge g w.heap.size with hlt | hge
      · exact hlt
      · simp [World.cell?, Array.getElem?_eq_none hge] at h
    rw [hbel.cell hlt]
    exact h
  have HK := Lib.hid hcell
  have HC := Lib.hid hC
  have HD := Lib.hid hD
  clear hC hD hcell
  go_enter Tryd.func12, Tryd.ntmps12
  go_wp2_with fail
  go_loopw [5] (fun i wr => ∃ k : Nat, k ≤ l.length ∧ i = .int .i64 k ∧ Below w.heap.size w wr) (fun i _ => l.length - (intOf i).toNat)
  case atStart => exact ⟨0, Nat.zero_le _, rfl, Below.refl _ _⟩
  case round =>
    obtain ⟨k, hk, rfl, hW⟩ := hrel
    by_cases hlt : k < l.length
    · obtain ⟨c0, c1, c2, c3⟩ := HC.out k hlt
      obtain ⟨d0, d1, d2, d3⟩ := HD.out k hlt
      replace c0 := HK.out wr hW _ _ k _ c0
      replace c1 := HK.out wr hW _ _ k _ c1
      replace c2 := HK.out wr hW _ _ k _ c2
      replace c3 := HK.out wr hW _ _ k _ c3
      replace d0 := HK.out wr hW _ _ k _ d0
      replace d1 := HK.out wr hW _ _ k _ d1
      replace d2 := HK.out wr hW _ _ k _ d2
      replace d3 := HK.out wr hW _ _ k _ d3
      generalize l[k].t = t at *
      generalize l[k].id = i at *
      generalize l[k].c = c at *
      generalize l[k].p = p at *
      go_wp2_with fail
      go_quiet (fail)
      go_wp2_with fail
      go_roundw
      case rel => exact ⟨k + 1, by omega, by go_num, below_drewN hW _⟩
      case measure => simp [intOf]; omega
    · obtain rfl : k = l.length := by omega
      go_wp2_with fail
      go_ret
      exact ⟨rfl, hW⟩

theorem same_nil (a a2 : Option Addr) (cap cap2 : Nat) (w : World) :
    Calls Tryd.prog 12 #[.slice a 0 cap, .slice a2 0 cap2] w fun e w' => e = .returned (.bool true) ∧ Below w.heap.size w w' := by
  go_enter Tryd.func12, Tryd.ntmps12
  go_wp2_with fail
  refine wp_loop_rounds 1 ?_
  rw [rounds_succ]
  go_wp2_with fail
  go_ret
  exact ⟨rfl, Below.refl _ _⟩
/-- The reference's SameRecords at two rows of the same records. -/
theorem same_any (l : List Rec) (v v2 : Value) (w : World) (hn : l.length ≤ 1000000000) (hv : Reads w v 4 l.length (recCells l)) (hv2 : Reads w v2 4 l.length (recCells l)) :
    Calls Tryd.prog 12 #[v, v2] w fun e w' => e = .returned (.bool true) ∧ Below w.heap.size w w' := by
  obtain ⟨a, cap, rfl, h⟩ := hv.opened (fun _ _ => rfl) (by decide)
  obtain ⟨a2, cap2, rfl, h2⟩ := hv2.opened (fun _ _ => rfl) (by decide)
  by_cases h0 : 0 < l.length
  · obtain ⟨b, off, rfl, _, hc⟩ := h h0
    obtain ⟨b2, off2, rfl, _, hd⟩ := h2 h0
    exact same_some b off cap b2 off2 cap2 l w hn (fun k h => ⟨hc k h 0 _ rfl, hc k h 1 _ rfl, hc k h 2 _ rfl, hc k h 3 _ rfl⟩) (fun k h => ⟨hd k h 0 _ rfl, hd k h 1 _ rfl, hd k h 2 _ rfl, hd k h 3 _ rfl⟩)
  · have : l = [] := List.eq_nil_of_length_eq_zero (by omega)
    subst this
    exact same_nil a a2 cap cap2 w
end Go.Proofs.YtbhdoechhfgpeaaRRRDoor
