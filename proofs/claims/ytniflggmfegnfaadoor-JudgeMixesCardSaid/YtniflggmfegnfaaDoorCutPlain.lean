/- Records out of chunks: what a cutter tells of the bytes that wait. No program in sight. -/
import Derived.Test.YtniflggmfegnfaaDoorPlainRec
import Derived.Test.YtniflggmfegnfaaDoorRead
namespace Go.Proofs.YtniflggmfegnfaaDoor

def cutNext (most : Int) (s : Bs) : Rec × Bs × Int := if 6 ≤ s.length ∧ at0 s 0 = 1 ∧ most < at0 s 4 * 256 + at0 s 5 then (Rec.zero, s, 12) else recRead s

theorem recRead_rest (s : Bs) : (recRead s).2.2 ≠ 0 → (recRead s).2.1 = s := by
  unfold recRead
  split
  · intro _; rfl
  · split
    · intro _; rfl
    · split
      · intro _; rfl
      · split
        · intro _; rfl
        · intro h; exact absurd rfl h
theorem recRead_lt (s : Bs) (h : (recRead s).2.2 = 0) : (recRead s).2.1.length < s.length := by
  unfold recRead at h ⊢
  split at h
  · simp at h
  · split at h
    · simp at h
    · split at h
      · simp at h
      · split at h
        · simp at h
        · rename_i h1 h2 h3 h4
          rw [if_neg h1, if_neg h2, if_neg h3, if_neg h4]
          have hw := wholeN_lo s
          simp only [List.length_drop]
          omega
theorem cutNext_rest (most : Int) (s : Bs) : (cutNext most s).2.2 ≠ 0 → (cutNext most s).2.1 = s := by
  unfold cutNext
  split
  · intro _; rfl
  · exact recRead_rest s
theorem cutNext_lt (most : Int) (s : Bs) (h : (cutNext most s).2.2 = 0) : (cutNext most s).2.1.length < s.length := by
  unfold cutNext at h ⊢
  split at h
  · simp at h
  · rename_i h1
    rw [if_neg h1]
    exact recRead_lt s h

/-- The records that are whole, what is wrong (0: nothing), what waits, whether it is dead. -/
def cutRun (most : Int) (s : Bs) : List Rec × Int × Bs × Bool :=
  if _h : (cutNext most s).2.2 = 0 then ((cutNext most s).1 :: (cutRun most (cutNext most s).2.1).1, (cutRun most (cutNext most s).2.1).2)
  else if (cutNext most s).2.2 = 11 then ([], 0, s, false) else ([], (cutNext most s).2.2, [], true)
termination_by s.length
decreasing_by all_goals exact cutNext_lt most s _h
def cutFeed (most : Int) (dead : Bool) (s chunk : Bs) : List Rec × Int × Bs × Bool := if dead then ([], 18, s, true) else cutRun most (s ++ chunk)
def glueC (acc : List Rec) (q : List Rec × Int × Bs × Bool) : List Rec × Int × Bs × Bool := (acc ++ q.1, q.2)
theorem glueC_nil (q : List Rec × Int × Bs × Bool) : glueC [] q = q := rfl
theorem glueC_step (acc : List Rec) (most : Int) (s : Bs) (h : (cutNext most s).2.2 = 0) : glueC acc (cutRun most s) = glueC (acc ++ [(cutNext most s).1]) (cutRun most (cutNext most s).2.1) := by
  rw [cutRun.eq_def most s, dif_pos h]
  simp [glueC]
theorem glueC_lacks (acc : List Rec) (most : Int) (s : Bs) (h : (cutNext most s).2.2 = 11) : glueC acc (cutRun most s) = (acc, 0, s, false) := by
  rw [cutRun.eq_def, dif_neg (by omega), if_pos h]
  simp [glueC]
theorem glueC_bad (acc : List Rec) (most : Int) (s : Bs) (h : (cutNext most s).2.2 ≠ 0) (h' : (cutNext most s).2.2 ≠ 11) : glueC acc (cutRun most s) = (acc, (cutNext most s).2.2, [], true) := by
  rw [cutRun.eq_def, dif_neg h, if_neg h']
  simp [glueC]
theorem cutRun_wait (most : Int) (s : Bs) : (cutRun most s).2.2.1.length ≤ s.length := by
  fun_induction cutRun most s with
  | case1 s h ih => have := cutNext_lt most s h; simp only; omega
  | case2 s h h' => simp
  | case3 s h h' => simp
end Go.Proofs.YtniflggmfegnfaaDoor
