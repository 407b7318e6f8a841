/- 'append(v, u...)' of a row of records and any row of records. No condition. -/
import Derived.Test.YtbhdoechhfgpeaaRRRDoorAppArg
import Derived.Test.YtbhdoechhfgpeaaRRRDoorRecRow
namespace Go.Proofs.YtbhdoechhfgpeaaRRRDoor
open Go.RowKit
theorem append_arg_r {B : Nat} {w : World} {v u : Value} {n m : Nat} {xs ys : List Value} (hv : w.ownsRow B 27 4 v n xs) (hu : Reads w u 4 m ys) (hB : B ≤ w.heap.size) (h1 : ∀ y ∈ ys, y.oneCell' = true) (h : n + m ≤ 1000000000) :
    ∃ v' w', (Builtin.append_ #[22, 22] 22 #[v, u]).run Tryd.prog w = .ok v' w' ∧ w'.ownsRow B 27 4 v' (n + m) (xs ++ ys) ∧ Below B w w' := by
  obtain ⟨ti, hti, hzz, hsz, hby⟩ := inf_rec
  exact append_arg 22 27 ti _ 4 40 Tryd.underlying22 hti hzz hsz hby rfl (by decide) (by decide) hv hu hB h1 h
theorem wpList_append_arg_r {B : Nat} {w : World} {v u : Value} {n m : Nat} {xs ys : List Value} (hv : w.ownsRow B 27 4 v n xs) (hu : Reads w u 4 m ys) (hB : B ≤ w.heap.size) (h1 : ∀ y ∈ ys, y.oneCell' = true) (hn : n + m ≤ 1000000000)
    {ops : Array Oper} {rest : List Oper} {o : Oper} {a : Act} {Q : Exit → Act → World → Prop} (hgd : o.guard = none) (x y : Operand) (ho : o.op = .call { callee := .builtin .append, args := #[x, y], argTypes := #[22, 22] }) (hty : o.type = 22)
    (hx : a.eval x = v) (hy : a.eval y = u) (h : ∀ v' w', w'.ownsRow B 27 4 v' (n + m) (xs ++ ys) → Below B w w' → wpList Tryd.prog ops Q rest (a.put o.dst v') w') : wpList Tryd.prog ops Q (o :: rest) a w := by
  obtain ⟨v', w', hrun, h2, h3⟩ := append_arg_r hv hu hB h1 hn
  refine wpList_plain hgd fun _ hK => ?_
  unfold Oper.wp execOp
  simp only [ho, hty, resolve, invoke, builtin, Sem.run_bind, Sem.run_pure, Result.andThen_ok, List.map_toArray, List.map_cons, List.map_nil, hx, hy, hrun]
  exact hK _ _ (h v' w' h2 h3)
end Go.Proofs.YtbhdoechhfgpeaaRRRDoor
