/- Rows of records: their cells, new ones, 'append' of two. No condition. -/
import Derived.Test.YtihfibelklhkbaaRec
import Derived.Test.YtihfibelklhkbaaOwn
namespace Go.Proofs.Ytihfibelklhkbaa
open Go.RowKit

def recCells (l : List Rec) : List Value := l.flatMap Rec.cells
theorem recCells_append (a b : List Rec) : recCells (a ++ b) = recCells a ++ recCells b := by simp [recCells]
theorem recCells_one (r : Rec) : recCells [r] = [.int .i64 r.t, .int .i64 r.id, .string (bs r.c), .int .i64 r.p] := by simp [recCells, Rec.cells]
theorem rec_one (l : List Rec) : ∀ y ∈ recCells l, y.oneCell' = true := by
  intro y hy
  obtain ⟨r, _, h⟩ := List.mem_flatMap.1 hy
  simp [Rec.cells] at h
  rcases h with rfl | rfl | rfl | rfl <;> rfl

theorem info_rec : (Try.prog.info? 96).map (fun i => (i.zero, i.size, i.bytes)) = some (some (.agg #[.int .i64 0, .int .i64 0, .string (bs []), .int .i64 0]), 4, 40) := by kernel_rfl
theorem inf_rec : ∃ i, Try.prog.info? 96 = some i ∧ i.zero = some (.agg #[.int .i64 0, .int .i64 0, .string (bs []), .int .i64 0]) ∧ i.size = 4 ∧ i.bytes = 40 := by
  obtain ⟨i, hi, h⟩ := Option.map_eq_some_iff.1 info_rec
  simp only [Prod.mk.injEq] at h
  exact ⟨i, hi, h.1, h.2.1, h.2.2⟩

theorem row_rec (w : World) (r : Rec) : Rg.Row 96 4 1 (recCells [r]) (.slice (some ⟨w.heap.size, 0, none⟩) 1 1) (fun k => k = w.heap.size) (w.alloc (.cells #[.int .i64 r.t, .int .i64 r.id, .string (bs r.c), .int .i64 r.p] 96)) := by
  rw [recCells_one]
  exact Rg.row_new w 96 4 1 #[.int .i64 r.t, .int .i64 r.id, .string (bs r.c), .int .i64 r.p] rfl (by simp [maxLen])

/-- 'append(v, u...)' of two rows of records. -/
theorem append_own {B : Nat} {w : World} {v u : Value} {n m : Nat} {xs ys : List Value} (hv : w.ownsRow B 96 4 v n xs) (hu : w.ownsRow B 96 4 u m ys) (hB : B ≤ w.heap.size) (h1 : ∀ y ∈ ys, y.oneCell' = true) (h : n + m ≤ 1000000000) :
    ∃ v' w', (Builtin.append_ #[84, 84] 84 #[v, u]).run Try.prog w = .ok v' w' ∧ w'.ownsRow B 96 4 v' (n + m) (xs ++ ys) ∧ Below B w w' := by
  obtain ⟨ti, hti, hzz, hsz, hby⟩ := inf_rec
  obtain ⟨v', w', hrun, hrow, hst⟩ := Rg.run_append_rows (P := Try.prog) w 84 84 96 ti _ 4 40 Try.underlying84 hti hzz hsz hby rfl (by decide)
    (F := fun k => v.ownBlock = some k) (G := fun k => u.ownBlock = some k) ⟨Rg.ownsRow_zero hv, fun k hk => hk⟩ ⟨Rg.ownsRow_zero hu, fun k hk => hk⟩ h1 (by unfold maxLen; omega) (by omega)
  refine ⟨v', w', hrun, ⟨hrow.1.1, ?_⟩, ⟨hst.os, hst.tape, hst.output, hst.size, fun k hk => hst.block k (by omega) (fun hx => by have := (hv.lt k hx).1; omega)⟩⟩
  rcases hrow.1.2 with hn | ⟨g, cap, cur, hv', _, rest⟩
  · exact .inl hn
  · refine .inr ⟨g, cap, cur, hv', ?_, rest⟩
    rcases (hrow.2 g (by rw [hv']; rfl)).2 with h | h
    · omega
    · exact (hv.lt g h).1

theorem wpList_append_rows {B : Nat} {w : World} {v u : Value} {n m : Nat} {xs ys : List Value} (hv : w.ownsRow B 96 4 v n xs) (hu : w.ownsRow B 96 4 u m ys) (hB : B ≤ w.heap.size) (h1 : ∀ y ∈ ys, y.oneCell' = true) (hn : n + m ≤ 1000000000)
    {ops : Array Oper} {rest : List Oper} {o : Oper} {a : Act} {Q : Exit → Act → World → Prop} (hgd : o.guard = none) (x y : Operand) (ho : o.op = .call { callee := .builtin .append, args := #[x, y], argTypes := #[84, 84] }) (hty : o.type = 84)
    (hx : a.eval x = v) (hy : a.eval y = u) (h : ∀ v' w', w'.ownsRow B 96 4 v' (n + m) (xs ++ ys) → Below B w w' → wpList Try.prog ops Q rest (a.put o.dst v') w') : wpList Try.prog ops Q (o :: rest) a w := by
  obtain ⟨v', w', hrun, h2, h3⟩ := append_own hv hu hB h1 hn
  refine wpList_plain hgd fun _ hK => ?_
  unfold Oper.wp execOp
  simp only [ho, hty, resolve, invoke, builtin, Sem.run_bind, Sem.run_pure, Result.andThen_ok, List.map_toArray, List.map_cons, List.map_nil, hx, hy, hrun]
  exact hK _ _ (h v' w' h2 h3)

theorem rec_at (l : List Rec) (i : Nat) (h : i < l.length) : (recCells l)[i * 4 + 1]? = some (.int .i64 l[i].id) ∧ (recCells l)[i * 4 + 2]? = some (.string (bs l[i].c)) ∧ (recCells l)[i * 4 + 3]? = some (.int .i64 l[i].p) ∧ (recCells l)[i * 4]? = some (.int .i64 l[i].t) := by
  have hk : l[i]? = some l[i] := List.getElem?_eq_getElem h
  have e := fun j (hj : j < 4) => flat_at Rec.cells l (fun _ _ => rfl) i j l[i] hk hj
  exact ⟨e 1 (by omega), e 2 (by omega), e 3 (by omega), e 0 (by omega)⟩

end Go.Proofs.Ytihfibelklhkbaa
