/- What frames.Build computes: a request's records. Conditions: at most 1000 pairs of at most 100000 bytes each, fewer than a million bytes of them all, a body of at most a million bytes. -/
import Derived.Test.YtfhddeghmlnobaaFrames
import Derived.Test.YtfhddeghmlnobaaPairs
import Derived.Test.YtfhddeghmlnobaaKind2
namespace Go.Proofs.Ytfhddeghmlnobaa
open Go.RowKit

def buildR (i : Int) (l : List (Bs × Bs)) (body : Bs) : List Rec := beginR i true :: (splitR 4 i (pairB l) ++ splitR 5 i body)

theorem own_kept {B : Nat} {e : TypeId} {size n : Nat} {xs : List Value} {v : Value} {w w' : World} (h : w.ownsRow B e size v n xs) (hb : Below w.heap.size w w') : w'.ownsRow B e size v n xs :=
  Rg.ownsRow_step (M := fun _ => False) h (Rg.below_step hb rfl) (fun _ _ h => h)
theorem own_low {B C : Nat} {e : TypeId} {size n : Nat} {xs : List Value} {v : Value} {w : World} (h : w.ownsRow B e size v n xs) (hB : C ≤ B) : w.ownsRow C e size v n xs := by
  refine ⟨h.1, ?_⟩
  rcases h.2 with hn | ⟨g, cap, cur, hv, hb, rest⟩
  · exact .inl hn
  · exact .inr ⟨g, cap, cur, hv, Nat.le_trans hB hb, rest⟩

theorem own_up {B : Nat} {e : TypeId} {size n : Nat} {xs : List Value} {v : Value} {w : World} (h : w.ownsRow 0 e size v n xs) (hB : ∀ k, v.ownBlock = some k → B ≤ k) : w.ownsRow B e size v n xs := by
  refine ⟨h.1, ?_⟩
  rcases h.2 with hn | ⟨g, cap, cur, hv, _, rest⟩
  · exact .inl hn
  · exact .inr ⟨g, cap, cur, hv, hB g (by rw [hv]; rfl), rest⟩

/-- 'append(v, u...)' of two rows of records. -/
theorem append_own {B : Nat} {w : World} {v u : Value} {n m : Nat} {xs ys : List Value} (hv : w.ownsRow B 31 4 v n xs) (hu : w.ownsRow B 31 4 u m ys) (hB : B ≤ w.heap.size) (h1 : ∀ y ∈ ys, y.oneCell' = true) (h : n + m ≤ 1000000000) :
    ∃ v' w', (Builtin.append_ #[27, 27] 27 #[v, u]).run Try.prog w = .ok v' w' ∧ w'.ownsRow B 31 4 v' (n + m) (xs ++ ys) ∧ Below B w w' := by
  obtain ⟨ti, hti, hzz, hsz, hby⟩ := inf_rec
  obtain ⟨v', w', hrun, hrow, hst⟩ := Rg.run_append_rows (P := Try.prog) w 27 27 31 ti _ 4 40 Try.underlying27 hti hzz hsz hby rfl (by decide)
    (F := fun k => v.ownBlock = some k) (G := fun k => u.ownBlock = some k) ⟨Rg.ownsRow_zero hv, fun k hk => hk⟩ ⟨Rg.ownsRow_zero hu, fun k hk => hk⟩ h1 (by unfold maxLen; omega) (by omega)
  refine ⟨v', w', hrun, ⟨hrow.1.1, ?_⟩, ⟨hst.os, hst.tape, hst.output, hst.size, fun k hk => hst.block k (by omega) (fun hx => by have := (hv.lt k hx).1; omega)⟩⟩
  rcases hrow.1.2 with hn | ⟨g, cap, cur, hv', _, rest⟩
  · exact .inl hn
  · refine .inr ⟨g, cap, cur, hv', ?_, rest⟩
    rcases (hrow.2 g (by rw [hv']; rfl)).2 with h | h
    · omega
    · exact (hv.lt g h).1

theorem wpList_append_rows {B : Nat} {w : World} {v u : Value} {n m : Nat} {xs ys : List Value} (hv : w.ownsRow B 31 4 v n xs) (hu : w.ownsRow B 31 4 u m ys) (hB : B ≤ w.heap.size) (h1 : ∀ y ∈ ys, y.oneCell' = true) (hn : n + m ≤ 1000000000)
    {ops : Array Oper} {rest : List Oper} {o : Oper} {a : Act} {Q : Exit → Act → World → Prop} (hgd : o.guard = none) (x y : Operand) (ho : o.op = .call { callee := .builtin .append, args := #[x, y], argTypes := #[27, 27] }) (hty : o.type = 27)
    (hx : a.eval x = v) (hy : a.eval y = u) (h : ∀ v' w', w'.ownsRow B 31 4 v' (n + m) (xs ++ ys) → Below B w w' → wpList Try.prog ops Q rest (a.put o.dst v') w') : wpList Try.prog ops Q (o :: rest) a w := by
  obtain ⟨v', w', hrun, h2, h3⟩ := append_own hv hu hB h1 hn
  refine wpList_plain hgd fun _ hK => ?_
  unfold Oper.wp execOp
  simp only [ho, hty, resolve, invoke, builtin, Sem.run_bind, Sem.run_pure, Result.andThen_ok, List.map_toArray, List.map_cons, List.map_nil, hx, hy, hrun]
  exact hK _ _ (h v' w' h2 h3)

theorem splitR_len (t i : Int) (s : Bs) : (splitR t i s).length ≤ s.length + 1 := by
  fun_induction splitR t i s with
  | case1 => simp
  | case2 s h ih =>
    have : 0 < s.length := List.length_pos_iff.2 h
    simp only [List.length_cons, List.length_drop] at *
    omega

set_option maxRecDepth 100000 in
set_option maxHeartbeats 4000000 in
theorem build_any (i : Int) (l : List (Bs × Bs)) (body : Bs) (v : Value) (w : World) (hP : ∀ w', Below w.heap.size w w' → Calls Try.prog 36 #[v] w' fun e w'' => e = .returned (.string (bs (pairB l))) ∧ Below w'.heap.size w' w'')
    (hl : (pairB l).length ≤ 1000000) (hbody : body.length ≤ 1000000) :
    Calls Try.prog 14 #[.int .i64 i, v, .string (bs body)] w fun e w' => ∃ u, e = .returned u ∧ w'.ownsRow w.heap.size 31 4 u (buildR i l body).length (recCells (buildR i l body)) ∧ Below w.heap.size w w' := by
  have hix0 : ∀ w, (Instr.index 66 (.agg #[.int .i64 4, .int .i64 5]) (.int .i64 0)).run Try.prog w = .ok (.int .i64 4) w := fun w => by kernel_rfl
  have hix1 : ∀ w, (Instr.index 66 (.agg #[.int .i64 4, .int .i64 5]) (.int .i64 1)).run Try.prog w = .ok (.int .i64 5) w := fun w => by kernel_rfl
  have hsA := fun w => split_any 4 i (pairB l) w hl
  have hsB := fun w => split_any 5 i body w hbody
  have lA := splitR_len 4 i (pairB l)
  have lB := splitR_len 5 i body
  have hres : recCells (buildR i l body) = (recCells [beginR i true] ++ recCells (splitR 4 i (pairB l))) ++ recCells (splitR 5 i body) := by
    rw [← recCells_append, ← recCells_append]; rfl
  have hlen : (buildR i l body).length = (1 + (splitR 4 i (pairB l)).length) + (splitR 5 i body).length := by simp [buildR]; omega
  rw [hres, hlen]
  clear hres hlen
  have HP := Lib.hid hP
  have HA := Lib.hid hsA
  have HB := Lib.hid hsB
  clear hP hsA hsB
  generalize pairB l = sp at *
  generalize splitR 4 i sp = ra at *
  generalize splitR 5 i body = rb at *
  go_enter Try.func14, Try.ntmps14
  go_wp2_with fail
  refine (begin_any i true _).mono ?_
  rintro e w1 ⟨rfl, W1⟩
  have r1 := row_rec w1 (beginR i true)
  have W1a := W1.alloc W1.size (.cells #[.int .i64 (beginR i true).t, .int .i64 (beginR i true).id, .string (bs (beginR i true).c), .int .i64 (beginR i true).p] 31)
  have o1 := own_up (B := w.heap.size) r1.1 (fun k hk => by have := r1.2 k hk; subst this; exact W1.size)
  clear r1
  go_wp2_with fail
  refine wp_loop_rounds 3 ?_
  rw [rounds_succ]
  go_wp2_with fail
  generalize (Value.slice (some ⟨w1.heap.size, 0, none⟩) 1 1) = v0 at *
  refine (HP.out _ W1a).mono ?_
  rintro e w2 ⟨rfl, hb⟩
  have o2 := own_kept o1 hb
  have W2 := below_later W1a hb
  clear hb o1 W1a W1
  go_wp2_with fail
  refine (HA.out _).mono ?_
  rintro e w3 ⟨u, rfl, hu, hb⟩
  have hu' := own_low hu W2.size
  have W3 := below_later W2 hb
  have o3 := own_kept o2 hb
  clear hb o2 W2 hu
  go_wp2_with (at_builtin; refine wpList_append_rows o3 hu' W3.size (rec_one _) (by omega) rfl _ _ rfl rfl rfl rfl ?_; intro v4 w4 o4 hb4)
  have W4 := W3.trans hb4
  clear hu' hb4 W3 o3
  rw [rounds_succ]
  go_wp2_with fail
  refine (HB.out _).mono ?_
  rintro e w5 ⟨u2, rfl, hu, hb⟩
  have hu' := own_low hu W4.size
  have W5 := below_later W4 hb
  have o5 := own_kept o4 hb
  clear hb o4 W4 hu
  go_wp2_with (at_builtin; refine wpList_append_rows o5 hu' W5.size (rec_one _) (by omega) rfl _ _ rfl rfl rfl rfl ?_; intro v6 w6 o6 hb6)
  have W6 := W5.trans hb6
  clear hu' hb6 W5 o5
  rw [rounds_succ]
  go_wp2_with fail
  go_ret
  exact ⟨v6, rfl, o6, W6⟩
end Go.Proofs.Ytfhddeghmlnobaa
