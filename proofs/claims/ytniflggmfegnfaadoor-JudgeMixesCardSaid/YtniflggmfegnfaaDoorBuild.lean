/- What frames.Build computes: a request's records. Conditions: at most 1000 pairs of at most 100000 bytes each, fewer than a million bytes of them all, a body of at most a million bytes. -/
import Derived.Test.YtniflggmfegnfaaDoorFrames
import Derived.Test.YtniflggmfegnfaaDoorPairs
import Derived.Test.YtniflggmfegnfaaDoorKind2
import Derived.Test.YtniflggmfegnfaaDoorRecRow
namespace Go.Proofs.YtniflggmfegnfaaDoor
open Go.RowKit

def buildR (i : Int) (l : List (Bs × Bs)) (body : Bs) : List Rec := beginR i true :: (splitR 4 i (pairB l) ++ splitR 5 i body)

theorem splitR_len (t i : Int) (s : Bs) : (splitR t i s).length ≤ s.length + 1 := by
  fun_induction splitR t i s with
  | case1 => simp
  | case2 s h ih =>
    have : 0 < s.length := List.length_pos_iff.2 h
    simp only [List.length_cons, List.length_drop] at *
    omega

end Go.Proofs.YtniflggmfegnfaaDoor
