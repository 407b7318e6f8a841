/- What the reference's Build and SameRecords compute: the same records; a row is the same as itself. Conditions: as for Build; a row of at most 1000000 records. -/
import Derived.Test.YtfhddeghmlnobaaFramesRef
import Derived.Test.YtfhddeghmlnobaaPairsRef
import Derived.Test.YtfhddeghmlnobaaBeginRef
import Derived.BigQuiet
namespace Go.Proofs.Ytfhddeghmlnobaa
open Go.RowKit

set_option maxRecDepth 100000 in
set_option maxHeartbeats 4000000 in
theorem rbuild_any (i : Int) (l : List (Bs × Bs)) (body : Bs) (v : Value) (w : World) (hP : ∀ w', Below w.heap.size w w' → Calls Try.prog 38 #[v] w' fun e w'' => e = .returned (.string (bs (pairB l))) ∧ Below w'.heap.size w' w'')
    (hl : (pairB l).length ≤ 1000000) (hbody : body.length ≤ 1000000) :
    Calls Try.prog 15 #[.int .i64 i, v, .string (bs body)] w fun e w' => ∃ u, e = .returned u ∧ w'.ownsRow w.heap.size 31 4 u (buildR i l body).length (recCells (buildR i l body)) ∧ Below w.heap.size w w' := by
  have hsA := fun w => rsplit_any 4 i (pairB l) w hl
  have hsB := fun w => rsplit_any 5 i body w hbody
  have lA := splitR_len 4 i (pairB l)
  have lB := splitR_len 5 i body
  have hres : recCells (buildR i l body) = (recCells [beginR i true] ++ recCells (splitR 4 i (pairB l))) ++ recCells (splitR 5 i body) := by
    rw [← recCells_append, ← recCells_append]; rfl
  have hlen : (buildR i l body).length = (1 + (splitR 4 i (pairB l)).length) + (splitR 5 i body).length := by simp [buildR]; omega
  rw [hres, hlen]
  clear hres hlen
  have HP := Lib.hid hP
  have HA := Lib.hid hsA
  have HB := Lib.hid hsB
  clear hP hsA hsB
  generalize pairB l = sp at *
  generalize splitR 4 i sp = ra at *
  generalize splitR 5 i body = rb at *
  go_enter Try.func15, Try.ntmps15
  go_wp2_with fail
  refine (rbegin_any i true _).mono ?_
  rintro e w1 ⟨rfl, W1⟩
  have r1 := row_rec w1 (beginR i true)
  have W1a := W1.alloc W1.size (.cells #[.int .i64 (beginR i true).t, .int .i64 (beginR i true).id, .string (bs (beginR i true).c), .int .i64 (beginR i true).p] 31)
  have o1 := own_up (B := w.heap.size) r1.1 (fun k hk => by have := r1.2 k hk; subst this; exact W1.size)
  clear r1
  go_wp2_with fail
  generalize (Value.slice (some ⟨w1.heap.size, 0, none⟩) 1 1) = v0 at *
  refine (HP.out _ W1a).mono ?_
  rintro e w2 ⟨rfl, hb⟩
  have o2 := own_kept o1 hb
  have W2 := below_later W1a hb
  clear hb o1 W1a W1
  go_wp2_with fail
  refine (HA.out _).mono ?_
  rintro e w3 ⟨u, rfl, hu, hb⟩
  have hu' := own_low hu W2.size
  have W3 := below_later W2 hb
  have o3 := own_kept o2 hb
  clear hb o2 W2 hu
  go_wp2_with (at_builtin; refine wpList_append_rows o3 hu' W3.size (rec_one _) (by omega) rfl _ _ rfl rfl rfl rfl ?_; intro v4 w4 o4 hb4)
  have W4 := W3.trans hb4
  clear hu' hb4 W3 o3
  go_wp2_with fail
  refine (HB.out _).mono ?_
  rintro e w5 ⟨u2, rfl, hu, hb⟩
  have hu' := own_low hu W4.size
  have W5 := below_later W4 hb
  have o5 := own_kept o4 hb
  clear hb o4 W4 hu
  go_wp2_with (at_builtin; refine wpList_append_rows o5 hu' W5.size (rec_one _) (by omega) rfl _ _ rfl rfl rfl rfl ?_; intro v6 w6 o6 hb6)
  have W6 := W5.trans hb6
  clear hu' hb6 W5 o5
  go_wp2_with fail
  go_ret
  exact ⟨v6, rfl, o6, W6⟩

set_option maxRecDepth 100000 in
set_option maxHeartbeats 4000000 in
theorem same_some (b off cap b2 off2 cap2 : Nat) (l : List Rec) (w : World) (hn : l.length ≤ 1000000000) 
    (hC : ∀ k (h : k < l.length), w.cell? ⟨b, off + k * 4, none⟩ = some (.int .i64 l[k].t) ∧ w.cell? ⟨b, off + k * 4 + 1, none⟩ = some (.int .i64 l[k].id) ∧ w.cell? ⟨b, off + k * 4 + 2, none⟩ = some (.string (bs l[k].c)) ∧ w.cell? ⟨b, off + k * 4 + 3, none⟩ = some (.int .i64 l[k].p))
    (hD : ∀ k (h : k < l.length), w.cell? ⟨b2, off2 + k * 4, none⟩ = some (.int .i64 l[k].t) ∧ w.cell? ⟨b2, off2 + k * 4 + 1, none⟩ = some (.int .i64 l[k].id) ∧ w.cell? ⟨b2, off2 + k * 4 + 2, none⟩ = some (.string (bs l[k].c)) ∧ w.cell? ⟨b2, off2 + k * 4 + 3, none⟩ = some (.int .i64 l[k].p)) :
    Calls Try.prog 13 #[.slice (some ⟨b, off, none⟩) l.length cap, .slice (some ⟨b2, off2, none⟩) l.length cap2] w fun e w' => e = .returned (.bool true) ∧ Below w.heap.size w w' := by
  have hcell : ∀ wr, Below w.heap.size w wr → ∀ (g o k : Nat) v, w.cell? ⟨g, o, none⟩ = some v → wr.cell? ⟨g, o, none⟩ = some v := by
    intro wr hbel g o k v h
    have hlt : g < w.heap.size := by
      rcases Nat.lt_or_ge g w.heap.size with hlt | hge
      · exact hlt
      · simp [World.cell?, Array.getElem?_eq_none hge] at h
    rw [hbel.cell hlt]
    exact h
  have HK := Lib.hid hcell
  have HC := Lib.hid hC
  have HD := Lib.hid hD
  clear hC hD hcell
  go_enter Try.func13, Try.ntmps13
  go_wp2_with fail
  go_loopw [5] (fun i wr => ∃ k : Nat, k ≤ l.length ∧ i = .int .i64 k ∧ Below w.heap.size w wr) (fun i _ => l.length - (intOf i).toNat)
  case atStart => exact ⟨0, Nat.zero_le _, rfl, Below.refl _ _⟩
  case round =>
    obtain ⟨k, hk, rfl, hW⟩ := hrel
    by_cases hlt : k < l.length
    · obtain ⟨c0, c1, c2, c3⟩ := HC.out k hlt
      obtain ⟨d0, d1, d2, d3⟩ := HD.out k hlt
      replace c0 := HK.out wr hW _ _ k _ c0
      replace c1 := HK.out wr hW _ _ k _ c1
      replace c2 := HK.out wr hW _ _ k _ c2
      replace c3 := HK.out wr hW _ _ k _ c3
      replace d0 := HK.out wr hW _ _ k _ d0
      replace d1 := HK.out wr hW _ _ k _ d1
      replace d2 := HK.out wr hW _ _ k _ d2
      replace d3 := HK.out wr hW _ _ k _ d3
      generalize l[k].t = t at *
      generalize l[k].id = i at *
      generalize l[k].c = c at *
      generalize l[k].p = p at *
      go_wp2_with fail
      go_quiet (fail)
      go_wp2_with fail
      go_roundw
      case rel => exact ⟨k + 1, by omega, by go_num, below_drewN hW _⟩
      case measure => simp [intOf]; omega
    · obtain rfl : k = l.length := by omega
      go_wp2_with fail
      go_ret
      exact ⟨rfl, hW⟩

theorem same_nil (a a2 : Option Addr) (cap cap2 : Nat) (w : World) :
    Calls Try.prog 13 #[.slice a 0 cap, .slice a2 0 cap2] w fun e w' => e = .returned (.bool true) ∧ Below w.heap.size w w' := by
  go_enter Try.func13, Try.ntmps13
  go_wp2_with fail
  refine wp_loop_rounds 1 ?_
  rw [rounds_succ]
  go_wp2_with fail
  go_ret
  exact ⟨rfl, Below.refl _ _⟩
/-- The reference's SameRecords at two rows of the same records. -/
theorem same_any (l : List Rec) (v v2 : Value) (w : World) (hn : l.length ≤ 1000000000) (hv : Reads w v 4 l.length (recCells l)) (hv2 : Reads w v2 4 l.length (recCells l)) :
    Calls Try.prog 13 #[v, v2] w fun e w' => e = .returned (.bool true) ∧ Below w.heap.size w w' := by
  obtain ⟨a, cap, rfl, h⟩ := hv.opened (fun _ _ => rfl) (by decide)
  obtain ⟨a2, cap2, rfl, h2⟩ := hv2.opened (fun _ _ => rfl) (by decide)
  by_cases h0 : 0 < l.length
  · obtain ⟨b, off, rfl, _, hc⟩ := h h0
    obtain ⟨b2, off2, rfl, _, hd⟩ := h2 h0
    exact same_some b off cap b2 off2 cap2 l w hn (fun k h => ⟨hc k h 0 _ rfl, hc k h 1 _ rfl, hc k h 2 _ rfl, hc k h 3 _ rfl⟩) (fun k h => ⟨hd k h 0 _ rfl, hd k h 1 _ rfl, hd k h 2 _ rfl, hd k h 3 _ rfl⟩)
  · have : l = [] := List.eq_nil_of_length_eq_zero (by omega)
    subst this
    exact same_nil a a2 cap cap2 w
end Go.Proofs.Ytfhddeghmlnobaa
