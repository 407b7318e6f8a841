/- Rows that a call owns, carried on; rows of pairs; 'append' of two rows of pairs. No condition. -/
import Derived.Test.YtihfibelklhkbaaPairs
import Derived.Test.YtihfibelklhkbaaApp
import Derived.Test.YtihfibelklhkbaaOpenP
namespace Go.Proofs.Ytihfibelklhkbaa
open Go.RowKit

def textLen : Value → Nat
  | .string c => c.size
  | _ => 0
theorem own_kept {B : Nat} {e : TypeId} {size n : Nat} {xs : List Value} {v : Value} {w w' : World} (h : w.ownsRow B e size v n xs) (hb : Below w.heap.size w w') : w'.ownsRow B e size v n xs :=
  Rg.ownsRow_step (M := fun _ => False) h (Rg.below_step hb rfl) (fun _ _ h => h)
theorem own_low {B C : Nat} {e : TypeId} {size n : Nat} {xs : List Value} {v : Value} {w : World} (h : w.ownsRow B e size v n xs) (hB : C ≤ B) : w.ownsRow C e size v n xs := by
  refine ⟨h.1, ?_⟩
  rcases h.2 with hn | ⟨g, cap, cur, hv, hb, rest⟩
  · exact .inl hn
  · exact .inr ⟨g, cap, cur, hv, Nat.le_trans hB hb, rest⟩

theorem own_up {B : Nat} {e : TypeId} {size n : Nat} {xs : List Value} {v : Value} {w : World} (h : w.ownsRow 0 e size v n xs) (hB : ∀ k, v.ownBlock = some k → B ≤ k) : w.ownsRow B e size v n xs := by
  refine ⟨h.1, ?_⟩
  rcases h.2 with hn | ⟨g, cap, cur, hv, _, rest⟩
  · exact .inl hn
  · exact .inr ⟨g, cap, cur, hv, hB g (by rw [hv]; rfl), rest⟩

theorem own_open {B : Nat} {e : TypeId} {size n : Nat} {xs : List Value} {v : Value} {w : World} (h : w.ownsRow B e size v n xs) (hn : 0 < n) :
    ∃ g cap, v = .slice (some ⟨g, 0, none⟩) n cap ∧ B ≤ g ∧ g < w.heap.size ∧ ∀ j u, xs[j]? = some u → w.cell? ⟨g, j, none⟩ = some u := by
  have hc := h
  rcases h.2 with ⟨_, h0⟩ | ⟨g, cap, cur, rfl, hb, hgg, rest⟩
  · omega
  · refine ⟨g, cap, rfl, hb, box_lt hgg, ?_⟩
    intro j u hj
    have := hc.cells (g := g) rfl j u hj
    rwa [add_plain, Nat.zero_add] at this

theorem own_slice {B size : Nat} {e : TypeId} {n : Nat} {xs : List Value} {v : Value} {w : World} (h : w.ownsRow B e size v n xs) : ∃ a cap, v = .slice a n cap := by
  rcases h.2 with ⟨rfl, rfl⟩ | ⟨g, cap, cur, rfl, _⟩
  · exact ⟨_, _, rfl⟩
  · exact ⟨_, _, rfl⟩
theorem info_pair : (Try.prog.info? 115).map (fun i => (i.zero, i.size, i.bytes)) = some (some (.agg #[.string (bs []), .string (bs [])]), 2, 32) := by kernel_rfl
theorem inf_pair : ∃ i, Try.prog.info? 115 = some i ∧ i.zero = some (.agg #[.string (bs []), .string (bs [])]) ∧ i.size = 2 ∧ i.bytes = 32 := by
  obtain ⟨i, hi, h⟩ := Option.map_eq_some_iff.1 info_pair
  simp only [Prod.mk.injEq] at h
  exact ⟨i, hi, h.1, h.2.1, h.2.2⟩
theorem row_pair (w : World) (x y : Bs) : Rg.Row 115 2 1 (pairCells (x, y)) (.slice (some ⟨w.heap.size, 0, none⟩) 1 1) (fun k => k = w.heap.size) (w.alloc (.cells #[.string (bs x), .string (bs y)] 115)) :=
  Rg.row_new w 115 2 1 #[.string (bs x), .string (bs y)] rfl (by simp [maxLen])
theorem pair_one (p : Bs × Bs) : ∀ y ∈ pairCells p, y.oneCell' = true := by
  intro y hy
  simp [pairCells] at hy
  rcases hy with rfl | rfl <;> rfl

theorem pair_cells_one (l : List (Bs × Bs)) : ∀ y ∈ l.flatMap pairCells, y.oneCell' = true := by
  intro y hy
  obtain ⟨p, _, h⟩ := List.mem_flatMap.1 hy
  exact pair_one p y h
/-- 'append(v, u...)' of two rows of pairs. -/
theorem append_own_p {B : Nat} {w : World} {v u : Value} {n m : Nat} {xs ys : List Value} (hv : w.ownsRow B 115 2 v n xs) (hu : w.ownsRow B 115 2 u m ys) (hB : B ≤ w.heap.size) (h1 : ∀ y ∈ ys, y.oneCell' = true) (h : n + m ≤ 1000000000) :
    ∃ v' w', (Builtin.append_ #[44, 44] 44 #[v, u]).run Try.prog w = .ok v' w' ∧ w'.ownsRow B 115 2 v' (n + m) (xs ++ ys) ∧ Below B w w' := by
  obtain ⟨ti, hti, hzz, hsz, hby⟩ := inf_pair
  obtain ⟨v', w', hrun, hrow, hst⟩ := Rg.run_append_rows (P := Try.prog) w 44 44 115 ti _ 2 32 Try.underlying44 hti hzz hsz hby rfl (by decide)
    (F := fun k => v.ownBlock = some k) (G := fun k => u.ownBlock = some k) ⟨Rg.ownsRow_zero hv, fun k hk => hk⟩ ⟨Rg.ownsRow_zero hu, fun k hk => hk⟩ h1 (by unfold maxLen; omega) (by omega)
  refine ⟨v', w', hrun, ⟨hrow.1.1, ?_⟩, ⟨hst.os, hst.tape, hst.output, hst.size, fun k hk => hst.block k (by omega) (fun hx => by have := (hv.lt k hx).1; omega)⟩⟩
  rcases hrow.1.2 with hn | ⟨g, cap, cur, hv', _, rest⟩
  · exact .inl hn
  · refine .inr ⟨g, cap, cur, hv', ?_, rest⟩
    rcases (hrow.2 g (by rw [hv']; rfl)).2 with h | h
    · omega
    · exact (hv.lt g h).1

theorem wpList_append_pairs {B : Nat} {w : World} {v u : Value} {n m : Nat} {xs ys : List Value} (hv : w.ownsRow B 115 2 v n xs) (hu : w.ownsRow B 115 2 u m ys) (hB : B ≤ w.heap.size) (h1 : ∀ y ∈ ys, y.oneCell' = true) (hn : n + m ≤ 1000000000)
    {ops : Array Oper} {rest : List Oper} {o : Oper} {a : Act} {Q : Exit → Act → World → Prop} (hgd : o.guard = none) (x y : Operand) (ho : o.op = .call { callee := .builtin .append, args := #[x, y], argTypes := #[44, 44] }) (hty : o.type = 44)
    (hx : a.eval x = v) (hy : a.eval y = u) (h : ∀ v' w', w'.ownsRow B 115 2 v' (n + m) (xs ++ ys) → Below B w w' → wpList Try.prog ops Q rest (a.put o.dst v') w') : wpList Try.prog ops Q (o :: rest) a w := by
  obtain ⟨v', w', hrun, h2, h3⟩ := append_own_p hv hu hB h1 hn
  refine wpList_plain hgd fun _ hK => ?_
  unfold Oper.wp execOp
  simp only [ho, hty, resolve, invoke, builtin, Sem.run_bind, Sem.run_pure, Result.andThen_ok, List.map_toArray, List.map_cons, List.map_nil, hx, hy, hrun]
  exact hK _ _ (h v' w' h2 h3)
end Go.Proofs.Ytihfibelklhkbaa
