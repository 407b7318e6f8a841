/- conduitlaw18.known answers true. No condition. -/
import Derived.Test.YtniflggmfegnfaaDoorBuild
namespace Go.Proofs.YtniflggmfegnfaaDoor
open Go.RowKit

theorem k18_build : buildR 3 [([97], [98])] [120, 121] = [⟨1, 3, [0, 1, 1, 0, 0, 0, 0, 0], 0⟩, ⟨4, 3, [1, 1, 97, 98], 4⟩, ⟨4, 3, [], 0⟩, ⟨5, 3, [120, 121], 6⟩, ⟨5, 3, [], 0⟩] := by
  have e : pairB [([97], [98])] = [1, 1, 97, 98] := rfl
  unfold buildR
  rw [e, split_step 4 3 [1, 1, 97, 98] (by simp), split_step 5 3 [120, 121] (by simp)]
  have z : ∀ t i, splitR t i [] = [⟨t, i, [], 0⟩] := fun t i => by unfold splitR; rfl
  simp only [List.drop_succ_cons, List.drop_nil, z]
  rfl

theorem field_type (w : World) (a : Int) (b c d : Value) : (Instr.field 33 (.agg #[.int .i64 a, b, c, d]) 0).run Tryd.prog w = .ok (.int .i64 a) w := by kernel_rfl

end Go.Proofs.YtniflggmfegnfaaDoor
