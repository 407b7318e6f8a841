/- 'append(v, u...)' where u is a row of pairs, of records that came in. No condition. -/
import Derived.Test.YtbhdoechhfgpeaaRRRDoorOwn
namespace Go.Proofs.YtbhdoechhfgpeaaRRRDoor
open Go.RowKit

theorem append_none {P : Program} {w : World} (base : Nat) (t ty e : TypeId) (i : TypeInfo) (size cap' : Nat) (ht : P.underlying t = some (.slice e)) (hi : P.info? e = some i)
    (v : Value) (n : Nat) (xs : List Value) (hown : w.ownsRow base e size v n xs) :
    (Builtin.append_ #[t, t] ty #[v, .slice none 0 cap']).run P w = .ok v w := by
  rcases hown.2 with ⟨rfl, rfl⟩ | ⟨g, cap, cur, rfl, _, _, hnc, _⟩
  · simp [Builtin.append_, run_underlying ht, sizeOf, typeInfo, hi, Builtin.lenOf, Builtin.firstCells]
  · simp [Builtin.append_, run_underlying ht, sizeOf, typeInfo, hi, Builtin.lenOf, Builtin.firstCells, hnc, storeCells]

theorem append_arg {P : Program} {B : Nat} {w : World} (t e : TypeId) (i : TypeInfo) (z : Value) (size bytes : Nat) (ht : P.underlying t = some (.slice e)) (hi : P.info? e = some i) (hz : i.zero = some z)
    (hsize : i.size = size) (hby : i.bytes = bytes) (hzs : z.cells.size = size) (hsz : 0 < size) (hb64 : bytes ≤ 64)
    {v u : Value} {n m : Nat} {xs ys : List Value} (hv : w.ownsRow B e size v n xs) (hu : Reads w u size m ys) (hB : B ≤ w.heap.size) (h1 : ∀ y ∈ ys, y.oneCell' = true) (h : n + m ≤ 1000000000) :
    ∃ v' w', (Builtin.append_ #[t, t] t #[v, u]).run P w = .ok v' w' ∧ w'.ownsRow B e size v' (n + m) (xs ++ ys) ∧ Below B w w' := by
  obtain ⟨hl, hm, a, cap, rfl, _, _, hr⟩ := hu
  have hmb : (n + m) * bytes ≤ 140737488355328 := Nat.le_trans (Nat.mul_le_mul h hb64) (by omega)
  have hat : ∀ (a0 : Addr), a = some a0 → ∀ j u, ys[j]? = some u → w.cell? (a0.add j) = some u := by
    intro a0 ha j u hj
    have hm0 : 0 < m := by
      rcases Nat.eq_zero_or_pos m with rfl | h
      · have : ys = [] := List.eq_nil_of_length_eq_zero (by omega)
        subst this
        simp at hj
      · exact h
    obtain ⟨b, off, ha', hc⟩ := hr hm0
    rw [ha] at ha'
    simp only [Option.some.injEq] at ha'
    subst ha'
    rw [add_plain]
    exact hc j u hj
  rcases a with _ | a0
  · have hm0 : m = 0 := by
      rcases Nat.eq_zero_or_pos m with h | h
      · exact h
      · obtain ⟨b, off, ha', _⟩ := hr h
        cases ha'
    subst hm0
    have : ys = [] := List.eq_nil_of_length_eq_zero (by omega)
    subst this
    exact ⟨v, w, append_none B t t e i size cap ht hi v n xs hv, by simpa using hv, Below.refl _ _⟩
  · obtain ⟨v', w', hrun, h2, h3, _⟩ := run_append_own (P := P) (w := w) B t t e i z size bytes ht hi hz hsize hby hzs hsz v n xs hv a0 m cap ys hl (hat a0 rfl) h1 (by unfold maxLen; omega) hmb hB
    refine ⟨v', w', hrun, h2, ⟨h3.os, h3.tape, h3.output, h3.size, fun k hk => h3.block k (by omega) (fun hx => ?_)⟩⟩
    have := (hv.lt k hx.symm).1
    omega

theorem append_arg_p {B : Nat} {w : World} {v u : Value} {n m : Nat} {xs ys : List Value} (hv : w.ownsRow B 42 2 v n xs) (hu : Reads w u 2 m ys) (hB : B ≤ w.heap.size) (h1 : ∀ y ∈ ys, y.oneCell' = true) (h : n + m ≤ 1000000000) :
    ∃ v' w', (Builtin.append_ #[43, 43] 43 #[v, u]).run Tryd.prog w = .ok v' w' ∧ w'.ownsRow B 42 2 v' (n + m) (xs ++ ys) ∧ Below B w w' := by
  obtain ⟨ti, hti, hzz, hsz, hby⟩ := inf_pair
  exact append_arg 43 42 ti _ 2 32 Tryd.underlying43 hti hzz hsz hby rfl (by decide) (by decide) hv hu hB h1 h

theorem wpList_append_arg_p {B : Nat} {w : World} {v u : Value} {n m : Nat} {xs ys : List Value} (hv : w.ownsRow B 42 2 v n xs) (hu : Reads w u 2 m ys) (hB : B ≤ w.heap.size) (h1 : ∀ y ∈ ys, y.oneCell' = true) (hn : n + m ≤ 1000000000)
    {ops : Array Oper} {rest : List Oper} {o : Oper} {a : Act} {Q : Exit → Act → World → Prop} (hgd : o.guard = none) (x y : Operand) (ho : o.op = .call { callee := .builtin .append, args := #[x, y], argTypes := #[43, 43] }) (hty : o.type = 43)
    (hx : a.eval x = v) (hy : a.eval y = u) (h : ∀ v' w', w'.ownsRow B 42 2 v' (n + m) (xs ++ ys) → Below B w w' → wpList Tryd.prog ops Q rest (a.put o.dst v') w') : wpList Tryd.prog ops Q (o :: rest) a w := by
  obtain ⟨v', w', hrun, h2, h3⟩ := append_arg_p hv hu hB h1 hn
  refine wpList_plain hgd fun _ hK => ?_
  unfold Oper.wp execOp
  simp only [ho, hty, resolve, invoke, builtin, Sem.run_bind, Sem.run_pure, Result.andThen_ok, List.map_toArray, List.map_cons, List.map_nil, hx, hy, hrun]
  exact hK _ _ (h v' w' h2 h3)
end Go.Proofs.YtbhdoechhfgpeaaRRRDoor
