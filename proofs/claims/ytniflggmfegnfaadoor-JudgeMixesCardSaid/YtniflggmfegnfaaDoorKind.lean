/- What the package kind computes: what begins, ends, what is unknown, names. Condition: a record's content is no longer than an int tells. -/
import Derived.Test.YtniflggmfegnfaaDoorBytes
import Derived.Test.YtniflggmfegnfaaDoorRead
import Derived.Test.YtniflggmfegnfaaDoorAid
import Derived.Test.YtniflggmfegnfaaDoorStore
import Derived.Test.YtniflggmfegnfaaDoorBits
namespace Go.Proofs.YtniflggmfegnfaaDoor
open Go.RowKit

/-! ### names -/
def kindName (t : Int) : Bs :=
  if t = 1 then [98, 101, 103, 105, 110] else if t = 2 then [97, 98, 111, 114, 116] else if t = 3 then [101, 110, 100] else if t = 4 then [112, 97, 114, 97, 109, 115]
  else if t = 5 then [115, 116, 100, 105, 110] else if t = 6 then [115, 116, 100, 111, 117, 116] else if t = 7 then [115, 116, 100, 101, 114, 114] else if t = 8 then [100, 97, 116, 97]
  else if t = 9 then [103, 101, 116] else if t = 10 then [103, 111, 116] else if t = 11 then [117, 110, 107, 110, 111, 119, 110] else [110, 111, 110, 101]

def eightR (t i : Int) (b : Bs) : Rec := ⟨t, i, b ++ List.replicate (8 - b.length) 0, 0⟩

theorem eight_run {wx : World} {b : Nat} {c0 c1 c2 c3 : Value} (t i p : Int) (c : ByteArray) (h : wx.heap[b]? = some (.cells #[c0, c1, c2, c3] 33)) : 
    ∃ w', ((do let _ ← Instr.storeAt 33 (.pointer (some ⟨b, 0, none⟩)) (.agg #[.int .i64 t, .int .i64 i, .string c, .int .i64 p]); pure .skip : Sem Next)).run Tryd.prog wx = .ok .skip w' ∧ w'.heap[b]? = some (.cells #[.int .i64 t, .int .i64 i, .string c, .int .i64 p] 33) ∧ Rg.Step (fun k => k = b) wx w' := by
  refine ⟨_, ?_, stored_rec h _ _ _ _, step_set4 _ _ _ _ _ _⟩
  rw [Sem.run_bind, run_store_rec wx b c0 c1 c2 c3 t i p c h]
  rfl

end Go.Proofs.YtniflggmfegnfaaDoor
