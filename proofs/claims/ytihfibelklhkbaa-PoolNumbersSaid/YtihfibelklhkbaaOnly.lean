/- A step that writes at most one block of those that were there. No condition. -/
import Derived.Test.YtihfibelklhkbaaRecRow
import Derived.Test.YtihfibelklhkbaaStore
namespace Go.Proofs.Ytihfibelklhkbaa
open Go.RowKit

theorem keep_new {w : World} (x : Obj) {i : Nat} {o : Obj} (h : w.heap[i]? = some o) : (w.alloc x).heap[i]? = some o := by rw [heap_alloc_old w x (box_lt h)]; exact h
/-- A step that writes at most block b, of what was there. -/
abbrev Only (b : Nat) (w w' : World) : Prop := Rg.Step (fun k => k = b) w w'
theorem only_below {b : Nat} {w w' : World} (h : Below w.heap.size w w') : Only b w w' := below_step_only h
where below_step_only {b : Nat} {w w' : World} (h : Below w.heap.size w w') : Rg.Step (fun k => k = b) w w' := Rg.below_step h rfl
theorem only_new {b : Nat} (w : World) (x : Obj) : Only b w (w.alloc x) := only_below (below_alloc w x)
theorem only_trans {b : Nat} {w w1 w2 : World} (h : Only b w w1) (k : Only b w1 w2) : Only b w w2 := h.trans k
theorem only_set {b : Nat} (w : World) (i : Nat) (v : Value) : Only b w (w.setCell ⟨b, i, none⟩ v) := Rg.step_set w b i v
/-- Writing to a block that is new since w. -/
theorem only_fresh {b g : Nat} {w w1 : World} (h : Only b w w1) (hg : w.heap.size ≤ g) (i : Nat) (v : Value) : Only b w (w1.setCell ⟨g, i, none⟩ v) := by
  have k : Rg.Step (fun k => k = b ∨ w.heap.size ≤ k) w (w1.setCell ⟨g, i, none⟩ v) :=
    (h.mono fun _ _ x => .inl x).trans ((Rg.step_set w1 g i v).mono fun _ _ x => .inr (by omega))
  exact k.mono fun k hk x => x.resolve_right (by omega)
theorem only_kept {b i : Nat} {w w' : World} {o : Obj} (h : Only b w w') (hi : w.heap[i]? = some o) (hne : i ≠ b) : w'.heap[i]? = some o := by rw [h.block i (box_lt hi) hne]; exact hi
theorem only_cell {b : Nat} {w w' : World} (h : Only b w w') {a : Addr} (ha : a.block < w.heap.size) (hne : a.block ≠ b) : w'.cell? a = w.cell? a := World.cell?_of_block (h.block _ ha hne)
theorem only_base {B b : Nat} {w w' : World} (h : Only b w w') (hB : B ≤ b) (hs : B ≤ w.heap.size) : Below B w w' := ⟨h.os, h.tape, h.output, h.size, fun k hk => h.block k (by omega) (by omega)⟩

theorem set4_other {w : World} {b g : Nat} {o : Obj} (h : w.heap[b]? = some o) (hne : b ≠ g) (v0 v1 v2 v3 : Value) : ((((w.setCell ⟨g, 0, none⟩ v0).setCell ⟨g, 1, none⟩ v1).setCell ⟨g, 2, none⟩ v2).setCell ⟨g, 3, none⟩ v3).heap[b]? = some o :=
  set_other (set_other (set_other (set_other h hne _) hne _) hne _) hne _
theorem only_fresh4 {b g : Nat} {w w1 : World} (h : Only b w w1) (hg : w.heap.size ≤ g) (v0 v1 v2 v3 : Value) : Only b w ((((w1.setCell ⟨g, 0, none⟩ v0).setCell ⟨g, 1, none⟩ v1).setCell ⟨g, 2, none⟩ v2).setCell ⟨g, 3, none⟩ v3) :=
  only_fresh (only_fresh (only_fresh (only_fresh h hg _ _) hg _ _) hg _ _) hg _ _
end Go.Proofs.Ytihfibelklhkbaa
