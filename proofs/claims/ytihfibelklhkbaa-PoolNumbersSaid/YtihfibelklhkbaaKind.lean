/- What the package kind computes: what begins, ends, what is unknown, names. Condition: a record's content is no longer than an int tells. -/
import Derived.Test.YtihfibelklhkbaaBytes
import Derived.Test.YtihfibelklhkbaaRead
import Derived.Test.YtihfibelklhkbaaAid
import Derived.Test.YtihfibelklhkbaaStore
import Derived.Test.YtihfibelklhkbaaBits
namespace Go.Proofs.Ytihfibelklhkbaa
open Go.RowKit

/-! ### names -/
def kindName (t : Int) : Bs :=
  if t = 1 then [98, 101, 103, 105, 110] else if t = 2 then [97, 98, 111, 114, 116] else if t = 3 then [101, 110, 100] else if t = 4 then [112, 97, 114, 97, 109, 115]
  else if t = 5 then [115, 116, 100, 105, 110] else if t = 6 then [115, 116, 100, 111, 117, 116] else if t = 7 then [115, 116, 100, 101, 114, 114] else if t = 8 then [100, 97, 116, 97]
  else if t = 9 then [103, 101, 116] else if t = 10 then [103, 111, 116] else if t = 11 then [117, 110, 107, 110, 111, 119, 110] else [110, 111, 110, 101]

def eightR (t i : Int) (b : Bs) : Rec := ⟨t, i, b ++ List.replicate (8 - b.length) 0, 0⟩

theorem eight_run {wx : World} {b : Nat} {c0 c1 c2 c3 : Value} (t i p : Int) (c : ByteArray) (h : wx.heap[b]? = some (.cells #[c0, c1, c2, c3] 96)) : 
    ∃ w', ((do let _ ← Instr.storeAt 96 (.pointer (some ⟨b, 0, none⟩)) (.agg #[.int .i64 t, .int .i64 i, .string c, .int .i64 p]); pure .skip : Sem Next)).run Try.prog wx = .ok .skip w' ∧ w'.heap[b]? = some (.cells #[.int .i64 t, .int .i64 i, .string c, .int .i64 p] 96) ∧ Rg.Step (fun k => k = b) wx w' := by
  refine ⟨_, ?_, stored_rec h _ _ _ _, step_set4 _ _ _ _ _ _⟩
  rw [Sem.run_bind, run_store_rec wx b c0 c1 c2 c3 t i p c h]
  rfl

set_option maxRecDepth 100000 in
set_option maxHeartbeats 2000000 in
theorem eight_any (t i : Int) (b : Bs) (w : World) (g : Nat) (C : Array Value) (hg : w.heap[g]? = some (.cells C 5 (0, 0))) (hC : C.toList = b.map bv) (hb : b.length ≤ 8) :
    Calls Try.prog 53 #[.int .i64 t, .int .i64 i, .slice (some ⟨g, 0, none⟩) b.length b.length] w fun e w' => e = .returned (eightR t i b).v ∧ Below w.heap.size w w' := by
  have hlt := box_lt hg
  go_enter Try.func53, Try.ntmps53
  go_wp2
  have hnew : (w.alloc (.cells #[.int .i64 0, .int .i64 0, .string (bs []), .int .i64 0] 96)).heap[w.heap.size]? = some (.cells #[.int .i64 0, .int .i64 0, .string (bs []), .int .i64 0] 96) := heap_alloc_new w _
  have hg' : (w.alloc (.cells #[.int .i64 0, .int .i64 0, .string (bs []), .int .i64 0] 96)).heap[g]? = some (.cells C 5 (0, 0)) := by rw [heap_alloc_old w _ hlt]; exact hg
  have hS : ∀ wx, Rg.Step (fun k => ∃ j, j = 10 ∧ k = w.heap.size) (w.alloc (.cells #[.int .i64 0, .int .i64 0, .string (bs []), .int .i64 0] 96)) wx → (convert 34 9 (.slice (some ⟨g, 0, none⟩) b.length b.length)).run Try.prog wx = .ok (.string (bs b)) wx := by
    intro wx hs
    refine from_bytes b wx g b.length C (0, 0) ?_ (by rw [hC, ← List.length_map (f := bv), List.take_length])
    rw [hs.block g (box_lt hg') (by rintro ⟨j, _, rfl⟩; omega)]
    exact hg'
  refine Rg.region1 17 [.val ?_, .val ?_, .val ?_, .val ?_, .val ?_, .val ?_, .val ?_, .val (.string (bs (List.replicate (8 - (b.length : Int)).toNat 0))), .val ?_, .val ?_, .any (Rg.Box w.heap.size (.cells #[.int .i64 t, .int .i64 i, .string (bs (b ++ List.replicate (8 - b.length) 0)), .int .i64 0] 96))] [] (fun j k => j = 10 ∧ k = w.heap.size) (by kernel_rfl) (by decide +kernel) (by simp) rfl (by simp) ?hstab ?hown ?hdis ?hchain ?hend
  case hstab => exact Rg.stable_val (Rg.stable_val (Rg.stable_val (Rg.stable_val (Rg.stable_val (Rg.stable_val (Rg.stable_val (Rg.stable_val (Rg.stable_val (Rg.stable_val (Rg.stable_box (Rg.stable_nil)))))))))))
  case hchain =>
    intro vs
    -- 0: slot 7 := Op.move t0
    refine Rg.Chain.pure rfl (fun w => by go_simp; (try go_ints); with_reducible rfl) ?_
    simp only [Act.put, List.setIfInBounds_toArray, List.set_cons_succ, List.set_cons_zero]
    -- 1: slot 8 := Op.move t1
    refine Rg.Chain.pure rfl (fun w => by go_simp; (try go_ints); with_reducible rfl) ?_
    simp only [Act.put, List.setIfInBounds_toArray, List.set_cons_succ, List.set_cons_zero]
    -- 2: slot 9 := Op.move t2
    refine Rg.Chain.pure rfl (fun w => by go_simp; (try go_ints); with_reducible rfl) ?_
    simp only [Act.put, List.setIfInBounds_toArray, List.set_cons_succ, List.set_cons_zero]
    -- 3: slot 10 := Op.convert 34 9 t9
    refine Rg.Chain.read rfl (fun wx hs => by have hcv := hS wx hs; go_simp; with_reducible rfl) ?_
    simp only [Act.put, List.setIfInBounds_toArray, List.set_cons_succ, List.set_cons_zero]
    -- 4: slot 11 := Op.move t2
    refine Rg.Chain.pure rfl (fun w => by go_simp; (try go_ints); with_reducible rfl) ?_
    simp only [Act.put, List.setIfInBounds_toArray, List.set_cons_succ, List.set_cons_zero]
    -- 5: slot 12 := Op.call ( builtin len, args := #[t11], argTypes := #[34] )
    refine Rg.Chain.pure rfl (fun w => by go_simp; (try go_ints); with_reducible rfl) ?_
    simp only [Act.put, List.setIfInBounds_toArray, List.set_cons_succ, List.set_cons_zero]
    -- 6: slot 13 := Op.binOp BinOp.sub 3 (const (8:i64)) t12 3
    refine Rg.Chain.pure rfl (fun w => by go_simp; (try go_ints); with_reducible rfl) ?_
    simp only [Act.put, List.setIfInBounds_toArray, List.set_cons_succ, List.set_cons_zero]
    -- 7: slot 14 := Op.call ( value (Operand.func 62), args := #[const (Value.string ( data := #[0] )), t13], 
    refine Rg.Chain.call ?_ ?_ rfl (fun w => ?_) (fun wx hs => ?_) ?_
    rotate_left 2
    · go_simp; (try go_ints); constructor <;> with_reducible rfl
    · exact repeat_any _ _ (by omega) (by omega)
    simp only [Act.put, List.setIfInBounds_toArray, List.set_cons_succ, List.set_cons_zero]
    -- 8: slot 15 := Op.binOp BinOp.add 9 t10 t14 9
    refine Rg.Chain.pure rfl (fun w => by go_simp; (first | with_reducible rfl | rw [if_neg (by omega)])) ?_
    simp only [Act.put, List.setIfInBounds_toArray, List.set_cons_succ, List.set_cons_zero]
    -- 9: slot 16 := Op.build 96 #[(0, t7), (1, t8), (2, t15)]
    refine Rg.Chain.pure rfl (fun w => by go_simp; (try go_ints); with_reducible rfl) ?_
    simp only [Act.put, List.setIfInBounds_toArray, List.set_cons_succ, List.set_cons_zero]
    -- 10: slot none := Op.store 96 t6 t16
    refine Rg.Chain.store hnew ⟨rfl, rfl⟩ rfl (fun wx hs hx => eight_run t i 0 _ hx) ?_
    simp only [Act.put]
    exact Rg.Chain.nil
  case hown => rintro j k ⟨_, rfl⟩; exact box_lt hnew
  case hdis => rintro i j k ⟨rfl, _⟩ ⟨rfl, _⟩; rfl
  case hend =>
    intro vs F w2 hE
    have hrow := hE.fact 10 _ (Rg.kept 10 (by decide)) rfl
    have hb2 := Rg.step_from hE.step (B := w.heap.size) (by simp) (by rintro j k ⟨_, rfl⟩; exact Nat.le_refl _)
    clear hE hS
    have cr := box_cells hrow.1
    simp only [Rg.finalAct, Rg.slot_val, Act.put, List.setIfInBounds_toArray, List.set_cons_succ, List.set_cons_zero]
    go_wp2
    have c0 := cr 0
    have c1 := cr 1
    have c2 := cr 2
    have c3 := cr 3
    refine bodyPost_ret (v := (eightR t i b).v) (by simp [results, Try.results53, go_sem, eightR, c0, c1, c2, c3]) rfl ⟨rfl, (below_alloc _ _).trans hb2⟩
end Go.Proofs.Ytihfibelklhkbaa
