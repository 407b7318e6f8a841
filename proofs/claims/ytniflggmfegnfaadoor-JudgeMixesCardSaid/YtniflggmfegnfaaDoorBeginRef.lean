/- What the reference's Begin computes: the same record as kind.Begin's. No condition. -/
import Derived.Test.YtniflggmfegnfaaDoorKind2
namespace Go.Proofs.YtniflggmfegnfaaDoor
open Go.RowKit

set_option maxRecDepth 100000 in
set_option maxHeartbeats 4000000 in
theorem rbegin_any (i : Int) (keep : Bool) (w : World) :
    Calls Tryd.prog 13 #[.int .i64 i, .bool keep] w fun e w' => e = .returned (beginR i keep).v ∧ Below w.heap.size w w' := by
  have hmk : ∀ w, (Instr.makeSlice 23 (.int .i64 8) (.int .i64 8)).run Tryd.prog w = .ok (.slice (some ⟨w.heap.size, 0, none⟩) 8 8) (w.alloc (.cells #[.int .u8 0, .int .u8 0, .int .u8 0, .int .u8 0, .int .u8 0, .int .u8 0, .int .u8 0, .int .u8 0] 5)) := by
    intro w
    have h := make_bytes w 8 (by omega) (by omega)
    rw [show madeCells #[Value.int .u8 0] (Int.toNat 8) = #[.int .u8 0, .int .u8 0, .int .u8 0, .int .u8 0, .int .u8 0, .int .u8 0, .int .u8 0, .int .u8 0] from Array.toList_inj.1 (by rw [toList_madeCells_one]; rfl)] at h
    exact h
  have hcv : ∀ (b : UInt8) (w' : World), (convert 23 9 (.slice (some ⟨w'.heap.size + 1, 0, none⟩) 8 8)).run Tryd.prog ((w'.alloc (.cells #[.int .i64 0, .int .i64 0, .string (bs []), .int .i64 0] 33)).alloc (.cells #[.int .u8 0, .int .u8 1, bv b, .int .u8 0, .int .u8 0, .int .u8 0, .int .u8 0, .int .u8 0] 5)) = .ok (.string (bs [0, 1, b, 0, 0, 0, 0, 0])) ((w'.alloc (.cells #[.int .i64 0, .int .i64 0, .string (bs []), .int .i64 0] 33)).alloc (.cells #[.int .u8 0, .int .u8 1, bv b, .int .u8 0, .int .u8 0, .int .u8 0, .int .u8 0, .int .u8 0] 5)) := by
    intro b w'
    have h := row_text (Rg.row_bytes (w'.alloc (.cells #[.int .i64 0, .int .i64 0, .string (bs []), .int .i64 0] 33)) 5 [0, 1, b, 0, 0, 0, 0, 0] #[.int .u8 0, .int .u8 1, bv b, .int .u8 0, .int .u8 0, .int .u8 0, .int .u8 0, .int .u8 0] (by simp [bv]) (by simp [maxLen]))
    rw [show (w'.alloc (.cells #[.int .i64 0, .int .i64 0, .string (bs []), .int .i64 0] 33)).heap.size = w'.heap.size + 1 from by simp] at h
    exact h
  have hcv0 := hcv 0 w
  have hcv1 := hcv 1 w
  rw [show bv 0 = .int .u8 0 from rfl] at hcv0
  rw [show bv 1 = .int .u8 1 from rfl] at hcv1
  clear hcv
  cases keep
  all_goals
    go_enter Tryd.func13, Tryd.ntmps13
    go_wp2_with fail
    exact bodyPost_ret (v := (beginR i _).v) (by simp [results, Tryd.results13, go_sem, beginR, eightR]; try rfl) rfl ⟨rfl, below_later (below_alloc _ _) (below_alloc _ _)⟩
end Go.Proofs.YtniflggmfegnfaaDoor
