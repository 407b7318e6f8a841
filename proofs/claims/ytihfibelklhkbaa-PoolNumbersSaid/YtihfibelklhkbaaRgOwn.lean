/- A region that draws its order, with a call that writes a block of its own; an operation that reads what a fact tells only in part. No condition. -/
import Derived.Test.YtihfibelklhkbaaStore
namespace Go.Proofs.Ytihfibelklhkbaa
open Go.RowKit
namespace Rg

def BoxV (b : Nat) (ob : Obj) (q : Value → Prop) : Value → (Nat → Prop) → World → Prop := fun v F w => q v ∧ Box b ob v F w
def ValP (q : Value → Prop) : Value → (Nat → Prop) → World → Prop := fun v F _ => q v ∧ ∀ k, ¬ F k
theorem stable_boxv {w0 : World} {own0 : Nat → Nat → Prop} {b : Nat} {ob : Obj} {q : Value → Prop} {l : List Fact} (h : ∀ φ ∈ l, Stable w0 own0 φ) : ∀ φ ∈ Fact.any (BoxV b ob q) :: l, Stable w0 own0 φ := fun φ hm => by
  rcases List.mem_cons.1 hm with rfl | hm
  · exact fun v F M w w' hh hs hM => ⟨hh.1, box_stable v F M w w' hh.2 hs hM⟩
  · exact h φ hm
theorem stable_valp {w0 : World} {own0 : Nat → Nat → Prop} {q : Value → Prop} {l : List Fact} (h : ∀ φ ∈ l, Stable w0 own0 φ) : ∀ φ ∈ Fact.any (ValP q) :: l, Stable w0 own0 φ := fun φ hm => by
  rcases List.mem_cons.1 hm with rfl | hm
  · exact fun v F M w w' hh _ _ => hh
  · exact h φ hm

section
variable {P : Program} {ops : Array Oper} {w0 : World} {own0 : Nat → Nat → Prop} {cons : Nat → List Nat} {facts : List Fact} {i : Nat} {o : Oper} {vs : Nat → Value} {a : Act} {os : List Oper} {φs : List Fact}
theorem Chain.callOwn {b : Nat} {ob ob' : Obj} {q : Value → Prop} (f : FuncId) (args : Array Value) (hb : w0.heap[b]? = some ob) (ho : own0 i b) (hg : Region.wanted o (yielded ops a.tmps) = true)
    (h : ∀ w, (execOp a.eval o).run P w = .ok (.enter f args) w)
    (hc : ∀ w, Step (fun k => ∃ j, own0 j k) w0 w → w.heap[b]? = some ob → Calls P f args w fun e w' => ∃ v, e = .returned v ∧ q v ∧ w'.heap[b]? = some ob' ∧ Step (fun k => k = b) w w')
    (hr : Chain P ops w0 own0 cons facts vs os φs (i + 1) (a.put o.dst (vs i))) :
    Chain P ops w0 own0 cons facts vs (o :: os) (.any (BoxV b ob' q) :: φs) i a := by
  refine ⟨?_, hr⟩
  intro F w K hp hK
  rw [if_pos hg]
  unfold Oper.wp
  rw [h w]
  refine Calls.mono (hc w hp.step (by rw [hp.mine b ho]; exact hb)) ?_
  rintro e w' ⟨v, rfl, hv, hbox, hst⟩
  refine hK v w' ⟨fun k => k = b, hst.mono (fun k _ hk => .inl (by rw [hk]; exact ho)), ⟨hv, hbox, fun _ => Iff.rfl⟩, ?_⟩
  rintro k rfl
  exact ⟨box_lt hbox, .inr (.inl ho)⟩
theorem Chain.readAny {p : Value → (Nat → Prop) → World → Prop} {q : Value → Prop} (d : Nat) (hf : facts[d]? = some (.any p)) (hg : Region.wanted o (yielded ops a.tmps) = true) (hd : (deps o).contains d = true) (hn : ∀ j, j ≠ i → d ∉ cons j)
    (h : ∀ w F, p (vs d) F w → ∃ c, (execOp a.eval o).run P w = .ok (.value c) w ∧ q c)
    (hr : Chain P ops w0 own0 cons facts vs os φs (i + 1) (a.put o.dst (vs i))) :
    Chain P ops w0 own0 cons facts vs (o :: os) (.any (ValP q) :: φs) i a := by
  refine ⟨?_, hr⟩
  intro F w K hp hK
  rw [if_pos hg]
  unfold Oper.wp
  obtain ⟨c, hrun, hq⟩ := h w (F d) (hp.fact d _ (by simpa using hd) hn hf)
  rw [hrun]
  exact hK c w ⟨fun _ => False, Step.refl _ _, ⟨hq, fun _ hx => hx⟩, fun _ hx => hx.elim⟩
end
end Rg
end Go.Proofs.Ytihfibelklhkbaa
