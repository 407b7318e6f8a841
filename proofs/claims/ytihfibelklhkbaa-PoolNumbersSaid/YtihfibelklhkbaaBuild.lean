/- What frames.Build computes: a request's records. Conditions: at most 1000 pairs of at most 100000 bytes each, fewer than a million bytes of them all, a body of at most a million bytes. -/
import Derived.Test.YtihfibelklhkbaaFrames
import Derived.Test.YtihfibelklhkbaaPairs
import Derived.Test.YtihfibelklhkbaaKind2
import Derived.Test.YtihfibelklhkbaaRecRow
namespace Go.Proofs.Ytihfibelklhkbaa
open Go.RowKit

def buildR (i : Int) (l : List (Bs × Bs)) (body : Bs) : List Rec := beginR i true :: (splitR 4 i (pairB l) ++ splitR 5 i body)

theorem splitR_len (t i : Int) (s : Bs) : (splitR t i s).length ≤ s.length + 1 := by
  fun_induction splitR t i s with
  | case1 => simp
  | case2 s h ih =>
    have : 0 < s.length := List.length_pos_iff.2 h
    simp only [List.length_cons, List.length_drop] at *
    omega

set_option maxRecDepth 100000 in
set_option maxHeartbeats 4000000 in
theorem build_any (i : Int) (l : List (Bs × Bs)) (body : Bs) (v : Value) (w : World) (hP : ∀ w', Below w.heap.size w w' → Calls Try.prog 40 #[v] w' fun e w'' => e = .returned (.string (bs (pairB l))) ∧ Below w'.heap.size w' w'')
    (hl : (pairB l).length ≤ 1000000) (hbody : body.length ≤ 1000000) :
    Calls Try.prog 35 #[.int .i64 i, v, .string (bs body)] w fun e w' => ∃ u, e = .returned u ∧ w'.ownsRow w.heap.size 96 4 u (buildR i l body).length (recCells (buildR i l body)) ∧ Below w.heap.size w w' := by
  have hix0 : ∀ w, (Instr.index 98 (.agg #[.int .i64 4, .int .i64 5]) (.int .i64 0)).run Try.prog w = .ok (.int .i64 4) w := fun w => by kernel_rfl
  have hix1 : ∀ w, (Instr.index 98 (.agg #[.int .i64 4, .int .i64 5]) (.int .i64 1)).run Try.prog w = .ok (.int .i64 5) w := fun w => by kernel_rfl
  have hsA := fun w => split_any 4 i (pairB l) w hl
  have hsB := fun w => split_any 5 i body w hbody
  have lA := splitR_len 4 i (pairB l)
  have lB := splitR_len 5 i body
  have hres : recCells (buildR i l body) = (recCells [beginR i true] ++ recCells (splitR 4 i (pairB l))) ++ recCells (splitR 5 i body) := by
    rw [← recCells_append, ← recCells_append]; rfl
  have hlen : (buildR i l body).length = (1 + (splitR 4 i (pairB l)).length) + (splitR 5 i body).length := by simp [buildR]; omega
  rw [hres, hlen]
  clear hres hlen
  have HP := Lib.hid hP
  have HA := Lib.hid hsA
  have HB := Lib.hid hsB
  clear hP hsA hsB
  generalize pairB l = sp at *
  generalize splitR 4 i sp = ra at *
  generalize splitR 5 i body = rb at *
  go_enter Try.func35, Try.ntmps35
  go_wp2_with fail
  refine (begin_any i true _).mono ?_
  rintro e w1 ⟨rfl, W1⟩
  have r1 := row_rec w1 (beginR i true)
  have W1a := W1.alloc W1.size (.cells #[.int .i64 (beginR i true).t, .int .i64 (beginR i true).id, .string (bs (beginR i true).c), .int .i64 (beginR i true).p] 96)
  have o1 := own_up (B := w.heap.size) r1.1 (fun k hk => by have := r1.2 k hk; subst this; exact W1.size)
  clear r1
  go_wp2_with fail
  refine wp_loop_rounds 3 ?_
  rw [rounds_succ]
  go_wp2_with fail
  generalize (Value.slice (some ⟨w1.heap.size, 0, none⟩) 1 1) = v0 at *
  refine (HP.out _ W1a).mono ?_
  rintro e w2 ⟨rfl, hb⟩
  have o2 := own_kept o1 hb
  have W2 := below_later W1a hb
  clear hb o1 W1a W1
  go_wp2_with fail
  refine (HA.out _).mono ?_
  rintro e w3 ⟨u, rfl, hu, hb⟩
  have hu' := own_low hu W2.size
  have W3 := below_later W2 hb
  have o3 := own_kept o2 hb
  clear hb o2 W2 hu
  go_wp2_with (at_builtin; refine wpList_append_rows o3 hu' W3.size (rec_one _) (by omega) rfl _ _ rfl rfl rfl rfl ?_; intro v4 w4 o4 hb4)
  have W4 := W3.trans hb4
  clear hu' hb4 W3 o3
  rw [rounds_succ]
  go_wp2_with fail
  refine (HB.out _).mono ?_
  rintro e w5 ⟨u2, rfl, hu, hb⟩
  have hu' := own_low hu W4.size
  have W5 := below_later W4 hb
  have o5 := own_kept o4 hb
  clear hb o4 W4 hu
  go_wp2_with (at_builtin; refine wpList_append_rows o5 hu' W5.size (rec_one _) (by omega) rfl _ _ rfl rfl rfl rfl ?_; intro v6 w6 o6 hb6)
  have W6 := W5.trans hb6
  clear hu' hb6 W5 o5
  rw [rounds_succ]
  go_wp2_with fail
  go_ret
  exact ⟨v6, rfl, o6, W6⟩
end Go.Proofs.Ytihfibelklhkbaa
