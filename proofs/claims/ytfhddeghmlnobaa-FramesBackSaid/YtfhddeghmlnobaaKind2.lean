/- What the package kind computes: what begins, ends. Condition: a record's content is no longer than an int tells. -/
import Derived.Test.YtfhddeghmlnobaaKind
namespace Go.Proofs.Ytfhddeghmlnobaa
open Go.RowKit

def beginR (i : Int) (keep : Bool) : Rec := eightR 1 i [0, 1, if keep then 1 else 0]
def endR (i a p : Int) : Rec := eightR 3 i [u8 (a / 16777216), u8 (a / 65536), u8 (a / 256), u8 a, u8 p]
def unknownR (t : Int) : Rec := eightR 11 0 [u8 t]
def mayC (r : Rec) (t : Int) : Int := if r.t = t ∧ r.c.length = 8 then 0 else 10

set_option maxRecDepth 100000 in
set_option maxHeartbeats 2000000 in
theorem begin_any (i : Int) (keep : Bool) (w : World) :
    Calls Try.prog 32 #[.int .i64 i, .bool keep] w fun e w' => e = .returned (beginR i keep).v ∧ Below w.heap.size w w' := by
  cases keep
  all_goals
    go_enter Try.func32, Try.ntmps32
    go_wp2_with fail
  · refine (eight_any 1 i [0, 1, 0] _ (w.heap.size + 1) #[.int .u8 0, .int .u8 1, .int .u8 0] (by simpa using heap_alloc_new (w.alloc _) _) rfl (by decide)).mono ?_
    rintro e w1 ⟨rfl, hb⟩
    have r1 := kept_alloc (heap_alloc_new w _) hb
    have W := below_after2 hb
    clear hb
    have z := box_lt r1
    have cr := box_cells r1
    have fr := box_free r1
    go_wp2_with fail
    exact bodyPost_ret (v := (beginR i false).v) (by simp [results, Try.results32, go_sem, beginR, eightR, cr]) rfl ⟨rfl, below_store4 W _ _ _ _⟩
  · refine (eight_any 1 i [0, 1, 1] _ (w.heap.size + 1) #[.int .u8 0, .int .u8 1, .int .u8 1] (by simpa using heap_alloc_new (w.alloc _) _) rfl (by decide)).mono ?_
    rintro e w1 ⟨rfl, hb⟩
    have r1 := kept_alloc (heap_alloc_new w _) hb
    have W := below_after2 hb
    clear hb
    have z := box_lt r1
    have cr := box_cells r1
    have fr := box_free r1
    go_wp2_with fail
    exact bodyPost_ret (v := (beginR i true).v) (by simp [results, Try.results32, go_sem, beginR, eightR, cr]) rfl ⟨rfl, below_store4 W _ _ _ _⟩

set_option maxRecDepth 100000 in
set_option maxHeartbeats 2000000 in
theorem unknown_any (t : Int) (w : World) :
    Calls Try.prog 47 #[.int .i64 t] w fun e w' => e = .returned (unknownR t).v ∧ Below w.heap.size w w' := by
  go_enter Try.func47, Try.ntmps47
  go_wp2_with fail
  refine (eight_any 11 0 [u8 t] _ (w.heap.size + 1) #[.int .u8 (t % 256)] (by simpa using heap_alloc_new (w.alloc _) _) (by simp [bv, u8_cast]) (by simp)).mono ?_
  rintro e w1 ⟨rfl, hb⟩
  have r1 := kept_alloc (heap_alloc_new w _) hb
  have W := below_after2 hb
  clear hb
  have z := box_lt r1
  have cr := box_cells r1
  have fr := box_free r1
  go_wp2_with fail
  exact bodyPost_ret (v := (unknownR t).v) (by simp [results, Try.results47, go_sem, unknownR, eightR, cr]) rfl ⟨rfl, below_store4 W _ _ _ _⟩

set_option maxRecDepth 100000 in
set_option maxHeartbeats 2000000 in
theorem end_any (i a p : Int) (w : World) (h0 : 0 ≤ a) (h1 : a < 4294967296) :
    Calls Try.prog 34 #[.int .i64 i, .agg #[.int .u32 a, .int .i64 p]] w fun e w' => e = .returned (endR i a p).v ∧ Below w.heap.size w w' := by
  go_enter Try.func34, Try.ntmps34
  go_wp2_with fail
  refine (eight_any 3 i [u8 (a / 16777216), u8 (a / 65536), u8 (a / 256), u8 a, u8 p] _ (w.heap.size + 2) _ (by simpa using heap_alloc_new ((w.alloc _).alloc _) _) (by simp [bv, u8_cast]; omega) (by simp)).mono ?_
  rintro e w1 ⟨rfl, hb⟩
  have r1 := kept_alloc (heap_alloc_new (w.alloc _) _) hb
  replace r1 : w1.heap[w.heap.size + 1]? = some (.cells #[.int .i64 0, .int .i64 0, .string (bs []), .int .i64 0] 31) := by simpa using r1
  have W := below_after (below_after2 hb)
  clear hb
  have z := box_lt r1
  have cr := box_cells r1
  have fr := box_free r1
  go_wp2_with fail
  exact bodyPost_ret (v := (endR i a p).v) (by simp [results, Try.results34, go_sem, endR, eightR, cr]) rfl ⟨rfl, (((W.setCell (Nat.le_succ _) _).setCell (Nat.le_succ _) _).setCell (Nat.le_succ _) _).setCell (Nat.le_succ _) _⟩

theorem may_form (r : Rec) (t : Int) (w : World) (hc : r.c.length ≤ 9223372036854775807) (h : ¬ (r.t = t ∧ r.c.length = 8)) :
    Calls Try.prog 48 #[r.v, .int .i64 t] w fun e w' => e = .returned (eV 10) ∧ Below w.heap.size w w' := by
  obtain ⟨rt, i, c, p⟩ := r
  simp only at h hc
  by_cases h1 : rt = t
  · subst h1
    have h2 : ¬ ((c.length : Int) = 8) := by intro e; exact h ⟨rfl, by omega⟩
    have q1 : (rt != rt) = false := by simp
    have q2 : ((c.length : Int) != 8) = true := by simpa using h2
    clear h h2
    go_enter Try.func48, Try.ntmps48
    go_wp2
    all_goals (go_ret; exact ⟨rfl, below_alloc _ _⟩)
  · have q1 : (rt != t) = true := by simpa using h1
    clear h
    go_enter Try.func48, Try.ntmps48
    go_wp2
    all_goals (go_ret; exact ⟨rfl, below_alloc _ _⟩)

set_option maxHeartbeats 1000000 in
theorem may_ok (i p t : Int) (c : Bs) (w : World) (h : c.length = 8) (h1 : 1 ≤ t) (h2 : t ≤ 255) :
    Calls Try.prog 48 #[.agg #[.int .i64 t, .int .i64 i, .string (bs c), .int .i64 p], .int .i64 t] w fun e w' => e = .returned .nilIface ∧ Below w.heap.size w w' := by
  have hI : (⟨t, 0, c, 0⟩ : Rec).Is := by unfold Rec.Is; simp only; omega
  have hS := fun w => is_any ⟨t, 0, c, 0⟩ w (by simp only; omega)
  rw [decide_eq_true hI] at hS
  have HS := Lib.hid hS
  clear hS hI
  have q1 : (t != t) = false := by simp
  have q2 : ((c.length : Int) != 8) = false := by simp; omega
  clear h h1 h2
  go_enter Try.func48, Try.ntmps48
  go_wp2_with fail
  refine (HS.out _).mono ?_
  rintro e w1 ⟨rfl, hb⟩
  have W := below_after hb
  clear hb
  go_wp2_with fail
  go_ret
  exact ⟨rfl, W⟩

/-- What ReadBegin reads in eight bytes. -/
def beginN (c : Bs) : Int := at0 c 0 * 256 + at0 c 1

theorem rb_form (r : Rec) (w : World) (hc : r.c.length ≤ 9223372036854775807) (h : ¬ (r.t = 1 ∧ r.c.length = 8)) :
    Calls Try.prog 31 #[r.v] w fun e w' => e = .returned (.tuple #[.int .i64 0, .bool false, eV 10]) ∧ Below w.heap.size w w' := by
  have hm := fun w => may_form r 1 w hc h
  have HM := Lib.hid hm
  obtain ⟨rt, i, c, p⟩ := r
  clear hm h hc
  go_enter Try.func31, Try.ntmps31
  go_wp2_with fail
  refine (HM.out _).mono ?_
  rintro e w1 ⟨rfl, hb⟩
  have W := below_after hb
  clear hb
  go_wp2_with fail
  refine (is_num 10 10 _).mono ?_
  rintro e w' ⟨rfl, rfl⟩
  go_wp2_with fail
  exact bodyPost_ret (v := .tuple #[.int .i64 0, .bool false, eV 10]) (by simp [results, Try.results31, go_sem]) rfl ⟨rfl, W⟩

set_option maxRecDepth 100000 in
set_option maxHeartbeats 2000000 in
theorem rb_ok (i p : Int) (c : Bs) (w : World) (h : c.length = 8) :
    Calls Try.prog 31 #[.agg #[.int .i64 1, .int .i64 i, .string (bs c), .int .i64 p]] w fun e w' => e = .returned (.tuple #[.int .i64 (beginN c), .bool (at0 c 2 % 2 == 1), .nilIface]) ∧ Below w.heap.size w w' := by
  have hm := fun w => may_ok i p 1 c w h (by decide) (by decide)
  have HM := Lib.hid hm
  clear hm
  have a0 := at0_lo c 0
  have b0 := at0_hi c 0
  have a1 := at0_lo c 1
  have b1 := at0_hi c 1
  have a2 := at0_lo c 2
  have b2 := at0_hi c 2
  have hor := or_two (at0 c 0) (at0 c 1) a0 b0 a1 b1
  have hand := and_u8_1 (at0 c 2) a2 b2
  go_enter Try.func31, Try.ntmps31
  go_wp2_with fail
  refine (HM.out _).mono ?_
  rintro e w1 ⟨rfl, hb⟩
  have r1 := new_alloc hb
  have W := below_after hb
  clear hb
  have z := box_lt r1
  have cr := box_cells r1
  go_wp2_with fail
  refine (is_nil 10 _).mono ?_
  rintro e w' ⟨rfl, rfl⟩
  go_wp2_with fail
  go_quiet (fail)
  go_wp2_with fail
  exact bodyPost_ret (v := .tuple #[.int .i64 (beginN c), .bool (at0 c 2 % 2 == 1), .nilIface]) (by simp [results, Try.results31, go_sem, beginN]) rfl ⟨rfl, below_drewN W _⟩
end Go.Proofs.Ytfhddeghmlnobaa
