/- The step of a store in a region that draws its order: it writes one block, which is its own. No condition. -/
import Derived.Test.YtihfibelklhkbaaApp
namespace Go.Proofs.Ytihfibelklhkbaa
open Go.RowKit
namespace Rg
/-- The block b holds ob. -/
def Box (b : Nat) (ob : Obj) : Value → (Nat → Prop) → World → Prop := fun _ F w => w.heap[b]? = some ob ∧ ∀ k, F k ↔ k = b

theorem box_stable {w0 : World} {own0 : Nat → Nat → Prop} {b : Nat} {ob : Obj} : Stable w0 own0 (.any (Box b ob)) := by
  rintro v F M w w' ⟨h, hF⟩ hs hM
  refine ⟨?_, hF⟩
  rw [hs.block b (box_lt h) (fun hm => (hM b hm).1 ((hF b).2 rfl))]
  exact h
theorem stable_box {w0 : World} {own0 : Nat → Nat → Prop} {b : Nat} {ob : Obj} {l : List Fact} (h : ∀ φ ∈ l, Stable w0 own0 φ) : ∀ φ ∈ Fact.any (Box b ob) :: l, Stable w0 own0 φ := fun φ hm => by
  rcases List.mem_cons.1 hm with rfl | hm
  · exact box_stable
  · exact h φ hm
theorem step_set (w : World) (b i : Nat) (v : Value) : Step (fun k => k = b) w (w.setCell ⟨b, i, none⟩ v) := by
  refine ⟨rfl, rfl, rfl, by simp, ?_⟩
  intro k _ hk
  exact Below.heap_setCell _ _ _ _ hk
section
variable {P : Program} {ops : Array Oper} {w0 : World} {own0 : Nat → Nat → Prop} {cons : Nat → List Nat} {facts : List Fact} {i : Nat} {o : Oper} {vs : Nat → Value} {a : Act} {os : List Oper} {φs : List Fact}
theorem Chain.store {b : Nat} {ob ob' : Obj} (hb : w0.heap[b]? = some ob) (ho : own0 i b) (hg : Region.wanted o (yielded ops a.tmps) = true)
    (h : ∀ w, Step (fun k => ∃ j, own0 j k) w0 w → w.heap[b]? = some ob → ∃ w', (execOp a.eval o).run P w = .ok .skip w' ∧ w'.heap[b]? = some ob' ∧ Step (fun k => k = b) w w')
    (hr : Chain P ops w0 own0 cons facts vs os φs (i + 1) (a.put o.dst (vs i))) :
    Chain P ops w0 own0 cons facts vs (o :: os) (.any (Box b ob') :: φs) i a := by
  refine ⟨?_, hr⟩
  intro F w K hp hK
  rw [if_pos hg]
  unfold Oper.wp
  obtain ⟨w', hrun, hbox, hst⟩ := h w hp.step (by rw [hp.mine b ho]; exact hb)
  rw [hrun]
  refine hK undef w' ⟨fun k => k = b, hst.mono (fun k _ hk => .inl (by rw [hk]; exact ho)), ⟨hbox, fun _ => Iff.rfl⟩, ?_⟩
  rintro k rfl
  exact ⟨box_lt hbox, .inr (.inl ho)⟩
end
end Rg
theorem run_store_rec (w : World) (b : Nat) (c0 c1 c2 c3 : Value) (t i p : Int) (c : ByteArray) (h : w.heap[b]? = some (.cells #[c0, c1, c2, c3] 96)) :
    (Instr.storeAt 96 (.pointer (some ⟨b, 0, none⟩)) (.agg #[.int .i64 t, .int .i64 i, .string c, .int .i64 p])).run Try.prog w = .ok () ((((w.setCell ⟨b, 0, none⟩ (.int .i64 t)).setCell ⟨b, 1, none⟩ (.int .i64 i)).setCell ⟨b, 2, none⟩ (.string c)).setCell ⟨b, 3, none⟩ (.int .i64 p)) := by
  have c := box_cells h
  have f := box_free h
  have q0 := c 0
  have q1 := c 1
  have q2 := c 2
  have q3 := c 3
  have f0 := f 0
  have f1 := f 1
  have f2 := f 2
  have f3 := f 3
  have z := box_lt h
  clear c f
  simp only [List.getElem?_toArray, List.getElem?_cons_zero, List.getElem?_cons_succ] at q0 q1 q2 q3
  go_simp
theorem stored_rec {w : World} {b : Nat} {c0 c1 c2 c3 : Value} {T : TypeId} (h : w.heap[b]? = some (.cells #[c0, c1, c2, c3] T)) (v0 v1 v2 v3 : Value) :
    ((((w.setCell ⟨b, 0, none⟩ v0).setCell ⟨b, 1, none⟩ v1).setCell ⟨b, 2, none⟩ v2).setCell ⟨b, 3, none⟩ v3).heap[b]? = some (.cells #[v0, v1, v2, v3] T) :=
  set_box (set_box (set_box (set_box h v0) v1) v2) v3
theorem step_set4 (w : World) (b : Nat) (v0 v1 v2 v3 : Value) : Rg.Step (fun k => k = b) w ((((w.setCell ⟨b, 0, none⟩ v0).setCell ⟨b, 1, none⟩ v1).setCell ⟨b, 2, none⟩ v2).setCell ⟨b, 3, none⟩ v3) :=
  (((Rg.step_set _ _ _ _).trans (Rg.step_set _ _ _ _)).trans (Rg.step_set _ _ _ _)).trans (Rg.step_set _ _ _ _)
end Go.Proofs.Ytihfibelklhkbaa
