/- kind.ReadBegin at every record. Condition: a content's length is a number. -/
import Derived.Test.YtniflggmfegnfaaDoorKind2
namespace Go.Proofs.YtniflggmfegnfaaDoor
open Go.RowKit

def rbN (r : Rec) : Int := if r.t = 1 ∧ r.c.length = 8 then beginN r.c else 0
def rbK (r : Rec) : Bool := if r.t = 1 ∧ r.c.length = 8 then at0 r.c 2 % 2 == 1 else false
def rbC (r : Rec) : Int := if r.t = 1 ∧ r.c.length = 8 then 0 else 10

theorem rb_any (r : Rec) (w : World) (hc : r.c.length ≤ 9223372036854775807) :
    Calls Tryd.prog 39 #[r.v] w fun e w' => e = .returned (.tuple #[.int .i64 (rbN r), .bool (rbK r), errV (rbC r)]) ∧ Below w.heap.size w w' := by
  by_cases h : r.t = 1 ∧ r.c.length = 8
  · simp only [rbN, rbK, rbC, if_pos h]
    obtain ⟨t, i, c, p⟩ := r
    obtain ⟨rfl, h⟩ := h
    exact rb_ok i p c w h
  · simp only [rbN, rbK, rbC, if_neg h]
    exact rb_form r w hc h
end Go.Proofs.YtniflggmfegnfaaDoor
