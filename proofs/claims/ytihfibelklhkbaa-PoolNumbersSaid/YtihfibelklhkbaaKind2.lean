/- What the package kind computes: what begins, ends. Condition: a record's content is no longer than an int tells. -/
import Derived.Test.YtihfibelklhkbaaKind
namespace Go.Proofs.Ytihfibelklhkbaa
open Go.RowKit

def beginR (i : Int) (keep : Bool) : Rec := eightR 1 i [0, 1, if keep then 1 else 0]
def endR (i a p : Int) : Rec := eightR 3 i [u8 (a / 16777216), u8 (a / 65536), u8 (a / 256), u8 a, u8 p]
def unknownR (t : Int) : Rec := eightR 11 0 [u8 t]
def mayC (r : Rec) (t : Int) : Int := if r.t = t ∧ r.c.length = 8 then 0 else 10

set_option maxRecDepth 100000 in
set_option maxHeartbeats 2000000 in
theorem begin_any (i : Int) (keep : Bool) (w : World) :
    Calls Try.prog 39 #[.int .i64 i, .bool keep] w fun e w' => e = .returned (beginR i keep).v ∧ Below w.heap.size w w' := by
  cases keep
  all_goals
    go_enter Try.func39, Try.ntmps39
    go_wp2_with fail
  · refine (eight_any 1 i [0, 1, 0] _ (w.heap.size + 1) #[.int .u8 0, .int .u8 1, .int .u8 0] (by simpa using heap_alloc_new (w.alloc _) _) rfl (by decide)).mono ?_
    rintro e w1 ⟨rfl, hb⟩
    have r1 := kept_alloc (heap_alloc_new w _) hb
    have W := below_after2 hb
    clear hb
    have z := box_lt r1
    have cr := box_cells r1
    have fr := box_free r1
    go_wp2_with fail
    exact bodyPost_ret (v := (beginR i false).v) (by simp [results, Try.results39, go_sem, beginR, eightR, cr]) rfl ⟨rfl, below_store4 W _ _ _ _⟩
  · refine (eight_any 1 i [0, 1, 1] _ (w.heap.size + 1) #[.int .u8 0, .int .u8 1, .int .u8 1] (by simpa using heap_alloc_new (w.alloc _) _) rfl (by decide)).mono ?_
    rintro e w1 ⟨rfl, hb⟩
    have r1 := kept_alloc (heap_alloc_new w _) hb
    have W := below_after2 hb
    clear hb
    have z := box_lt r1
    have cr := box_cells r1
    have fr := box_free r1
    go_wp2_with fail
    exact bodyPost_ret (v := (beginR i true).v) (by simp [results, Try.results39, go_sem, beginR, eightR, cr]) rfl ⟨rfl, below_store4 W _ _ _ _⟩

/-- What ReadBegin reads in eight bytes. -/
def beginN (c : Bs) : Int := at0 c 0 * 256 + at0 c 1

end Go.Proofs.Ytihfibelklhkbaa
