/- The reference's SamePairs at two rows of the same pairs: true. Condition: at most a milliard pairs. -/
import Derived.Test.YtniflggmfegnfaaDoorOpenP
import Derived.BigQuiet
namespace Go.Proofs.YtniflggmfegnfaaDoor
open Go.RowKit

set_option maxRecDepth 100000 in
set_option maxHeartbeats 4000000 in
theorem samep_some (b off cap b2 off2 cap2 : Nat) (l : List (Bs × Bs)) (w : World) (hn : l.length ≤ 1000000000) 
    (hC : ∀ k (h : k < l.length), w.cell? ⟨b, off + k * 2, none⟩ = some (.string (bs l[k].1)) ∧ w.cell? ⟨b, off + k * 2 + 1, none⟩ = some (.string (bs l[k].2)))
    (hD : ∀ k (h : k < l.length), w.cell? ⟨b2, off2 + k * 2, none⟩ = some (.string (bs l[k].1)) ∧ w.cell? ⟨b2, off2 + k * 2 + 1, none⟩ = some (.string (bs l[k].2))) :
    Calls Tryd.prog 10 #[.slice (some ⟨b, off, none⟩) l.length cap, .slice (some ⟨b2, off2, none⟩) l.length cap2] w fun e w' => e = .returned (.bool true) ∧ Below w.heap.size w w' := by
  have hcell : ∀ wr, Below w.heap.size w wr → ∀ (g o : Nat) v, w.cell? ⟨g, o, none⟩ = some v → wr.cell? ⟨g, o, none⟩ = some v := by
    intro wr hbel g o v h
    have hlt : g < w.heap.size := by
      rcases Nat.lt_or_ge g w.heap.size with hlt | hge
      · exact hlt
      · simp [World.cell?, Array.getElem?_eq_none hge] at h
    rw [hbel.cell hlt]
    exact h
  have HK := Lib.hid hcell
  have HC := Lib.hid hC
  have HD := Lib.hid hD
  clear hC hD hcell
  go_enter Tryd.func10, Tryd.ntmps10
  go_wp2_with fail
  go_loopw [5] (fun i wr => ∃ k : Nat, k ≤ l.length ∧ i = .int .i64 k ∧ Below w.heap.size w wr) (fun i _ => l.length - (intOf i).toNat)
  case atStart => exact ⟨0, Nat.zero_le _, rfl, Below.refl _ _⟩
  case round =>
    obtain ⟨k, hk, rfl, hW⟩ := hrel
    by_cases hlt : k < l.length
    · obtain ⟨c0, c1⟩ := HC.out k hlt
      obtain ⟨d0, d1⟩ := HD.out k hlt
      replace c0 := HK.out wr hW _ _ _ c0
      replace c1 := HK.out wr hW _ _ _ c1
      replace d0 := HK.out wr hW _ _ _ d0
      replace d1 := HK.out wr hW _ _ _ d1
      generalize l[k].1 = x at *
      generalize l[k].2 = y at *
      go_wp2_with fail
      go_quiet (fail)
      go_wp2_with fail
      go_roundw
      case rel => exact ⟨k + 1, by omega, by go_num, below_drewN hW _⟩
      case measure => simp [intOf]; omega
    · obtain rfl : k = l.length := by omega
      go_wp2_with fail
      go_ret
      exact ⟨rfl, hW⟩
theorem samep_nil (a a2 : Option Addr) (cap cap2 : Nat) (w : World) :
    Calls Tryd.prog 10 #[.slice a 0 cap, .slice a2 0 cap2] w fun e w' => e = .returned (.bool true) ∧ Below w.heap.size w w' := by
  go_enter Tryd.func10, Tryd.ntmps10
  go_wp2_with fail
  refine wp_loop_rounds 1 ?_
  rw [rounds_succ]
  go_wp2_with fail
  go_ret
  exact ⟨rfl, Below.refl _ _⟩
/-- The reference's SamePairs at two rows of the same pairs. -/
theorem samep_any (l : List (Bs × Bs)) (v v2 : Value) (w : World) (hn : l.length ≤ 1000000000) (hv : Reads w v 2 l.length (l.flatMap pairCells)) (hv2 : Reads w v2 2 l.length (l.flatMap pairCells)) :
    Calls Tryd.prog 10 #[v, v2] w fun e w' => e = .returned (.bool true) ∧ Below w.heap.size w w' := by
  obtain ⟨a, cap, rfl, h⟩ := hv.opened (fun _ _ => rfl) (by decide)
  obtain ⟨a2, cap2, rfl, h2⟩ := hv2.opened (fun _ _ => rfl) (by decide)
  by_cases h0 : 0 < l.length
  · obtain ⟨b, off, rfl, _, hc⟩ := h h0
    obtain ⟨b2, off2, rfl, _, hd⟩ := h2 h0
    exact samep_some b off cap b2 off2 cap2 l w hn (fun k h => ⟨hc k h 0 _ rfl, hc k h 1 _ rfl⟩) (fun k h => ⟨hd k h 0 _ rfl, hd k h 1 _ rfl⟩)
  · have : l = [] := List.eq_nil_of_length_eq_zero (by omega)
    subst this
    exact samep_nil a a2 cap cap2 w
end Go.Proofs.YtniflggmfegnfaaDoor
