/- conduitlaw18.known answers true. No condition. -/
import Derived.Test.YtfhddeghmlnobaaBuild
namespace Go.Proofs.Ytfhddeghmlnobaa
open Go.RowKit

theorem own_open {B : Nat} {e : TypeId} {size n : Nat} {xs : List Value} {v : Value} {w : World} (h : w.ownsRow B e size v n xs) (hn : 0 < n) :
    ∃ g cap, v = .slice (some ⟨g, 0, none⟩) n cap ∧ B ≤ g ∧ g < w.heap.size ∧ ∀ j u, xs[j]? = some u → w.cell? ⟨g, j, none⟩ = some u := by
  have hc := h
  rcases h.2 with ⟨_, h0⟩ | ⟨g, cap, cur, rfl, hb, hgg, rest⟩
  · omega
  · refine ⟨g, cap, rfl, hb, box_lt hgg, ?_⟩
    intro j u hj
    have := hc.cells (g := g) rfl j u hj
    rwa [add_plain, Nat.zero_add] at this

set_option maxRecDepth 100000 in
theorem abort_any (i : Int) (w : World) :
    Calls Try.prog 18 #[.int .i64 i] w fun e w' => e = .returned (.agg #[.int .i64 2, .int .i64 i, .string (bs []), .int .i64 0]) ∧ Below w.heap.size w w' := by
  go_enter Try.func18, Try.ntmps18
  go_wp2_with fail
  exact bodyPost_ret (v := .agg #[.int .i64 2, .int .i64 i, .string (bs []), .int .i64 0]) (by simp [results, Try.results18, go_sem]) rfl ⟨rfl, below_alloc _ _⟩

theorem k18_build : buildR 3 [([97], [98])] [120, 121] = [⟨1, 3, [0, 1, 1, 0, 0, 0, 0, 0], 0⟩, ⟨4, 3, [1, 1, 97, 98], 4⟩, ⟨4, 3, [], 0⟩, ⟨5, 3, [120, 121], 6⟩, ⟨5, 3, [], 0⟩] := by
  have e : pairB [([97], [98])] = [1, 1, 97, 98] := rfl
  unfold buildR
  rw [e, split_step 4 3 [1, 1, 97, 98] (by simp), split_step 5 3 [120, 121] (by simp)]
  have z : ∀ t i, splitR t i [] = [⟨t, i, [], 0⟩] := fun t i => by unfold splitR; rfl
  simp only [List.drop_succ_cons, List.drop_nil, z]
  rfl

theorem field_type (w : World) (a : Int) (b c d : Value) : (Instr.field 31 (.agg #[.int .i64 a, b, c, d]) 0).run Try.prog w = .ok (.int .i64 a) w := by kernel_rfl

set_option maxRecDepth 100000 in
set_option maxHeartbeats 4000000 in
theorem known18 (w : World) : Calls Try.prog 12 #[] w fun e w' => e = .returned (.bool true) ∧ Below w.heap.size w w' := by
  have hP : ∀ w', Below (w.alloc (.cells #[.string (bs [97]), .string (bs [98])] 25)).heap.size (w.alloc (.cells #[.string (bs [97]), .string (bs [98])] 25)) w' → Calls Try.prog 36 #[.slice (some ⟨w.heap.size, 0, none⟩) 1 1] w' fun e w'' => e = .returned (.string (bs (pairB [([97], [98])]))) ∧ Below w'.heap.size w' w'' := by
    intro w' hb
    refine pbytes_some w.heap.size 0 1 [([97], [98])] w' (by simp) (fun _ => size_after hb) (by simp) ?_
    intro k hk
    have : k = 0 := by simpa using hk
    subst this
    exact ⟨by rw [cell_after hb]; rfl, by rw [cell_after hb]; rfl⟩
  have hB := build_any 3 [([97], [98])] [120, 121] (.slice (some ⟨w.heap.size, 0, none⟩) 1 1) _ hP (by decide) (by decide)
  rw [k18_build] at hB
  have HB := Lib.hid hB
  clear hP hB
  have hS := fun w => split_any 5 1 [] w (by decide)
  rw [show splitR 5 1 [] = [⟨5, 1, [], 0⟩] from by unfold splitR; rfl] at hS
  have HS := Lib.hid hS
  clear hS
  go_enter Try.func12, Try.ntmps12
  go_wp2_with fail
  refine HB.out.mono ?_
  rintro e w1 ⟨u, rfl, ho, hb⟩
  have W1 := below_after hb
  obtain ⟨g, cap, rfl, _, hg, hc⟩ := own_open ho (by simp)
  have c0 := hc 0 _ rfl
  have c4 := hc 4 _ rfl
  have c6 := hc 6 _ rfl
  have c7 := hc 7 _ rfl
  have c10 := hc 10 _ rfl
  have c12 := hc 12 _ rfl
  have c14 := hc 14 _ rfl
  have c18 := hc 18 _ rfl
  simp only [List.length_cons, List.length_nil] at *
  clear hb ho hc
  go_wp2_with fail
  refine (abort_any 3 _).mono ?_
  rintro e w2 ⟨rfl, hb⟩
  have W2 := below_later W1 hb
  clear hb W1 c0 c4 c6 c7 c10 c12 c14 c18
  have hf := field_type w2 2 (.int .i64 3) (.string (bs [])) (.int .i64 0)
  go_wp2_with fail
  refine (HS.out _).mono ?_
  rintro e w3 ⟨u, rfl, ho, hb⟩
  have W3 := below_later W2 hb
  obtain ⟨g2, cap2, rfl, _, _, _⟩ := own_open ho (by simp)
  clear hb ho W2
  go_wp2_with fail
  go_ret
  exact ⟨rfl, W3⟩
end Go.Proofs.Ytfhddeghmlnobaa
