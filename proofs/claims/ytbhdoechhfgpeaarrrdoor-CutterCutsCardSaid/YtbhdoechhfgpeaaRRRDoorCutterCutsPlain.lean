/- However bytes are cut the records are the same: what the law CutterCuts leans on. No program in sight. -/
import Derived.Test.YtbhdoechhfgpeaaRRRDoorCutterLimits
namespace Go.Proofs.YtbhdoechhfgpeaaRRRDoor

/-- What may wait behind the records: nothing, or a record's beginning, too short to be one. -/
def restB (more : Bs) : Bs := if more ≠ [] ∧ at0 more 0 ≠ 1 then [] else more
theorem rest_run (more : Bs) (h : more.length ≤ 7) : cutRun 65535 (restB more) = ([], 0, restB more, false) := by
  unfold restB
  split
  · exact cutRun_nil _
  · rename_i hn
    by_cases hm : more = []
    · subst hm; exact cutRun_nil _
    · have h1 : at0 more 0 = 1 := by
        by_cases ha : at0 more 0 = 1
        · exact ha
        · exact absurd ⟨hm, ha⟩ hn
      have b4 := at0_hi more 4
      have b5 := at0_hi more 5
      exact cutRun_lacks (by rw [cutNext_def, if_neg (fun hl => by have := hl.2.2; omega), recRead_short (.inr h1) (by omega)])
theorem cuts_whole (l : List Rec) (more : Bs) (hl : ∀ r ∈ l, r.Is) (h : more.length ≤ 7) : cutRun 65535 (allBytes l ++ restB more) = (l, 0, restB more, false) := by
  rw [cutRun_recs 65535 l (restB more) (fun r hr => ⟨hl r hr, by have := (hl r hr).2.2.2.2.1; omega⟩), rest_run more h]
  simp [glueC]
theorem cuts_le (most : Int) (s : Bs) : (cutRun most s).1.length ≤ s.length := by
  fun_induction cutRun most s with
  | case1 s h ih => have := cutNext_lt most s h; simp only [List.length_cons]; omega
  | case2 s h h' => simp
  | case3 s h h' => simp
theorem cuts_step (S : Bs) (hS : (cutRun 65535 S).2.1 = 0) (c k : Nat) (Y : List Rec) (w : Bs) (h : cutRun 65535 (S.take c) = (Y, 0, w, false)) :
    ∃ Z w', cutFeed 65535 false w ((S.drop c).take k) = (Z, 0, w', false) ∧ cutRun 65535 (S.take (c + k)) = (Y ++ Z, 0, w', false) ∧ w'.length ≤ S.length ∧ Z.length ≤ S.length := by
  have e : S.take (c + k) = S.take c ++ (S.drop c).take k := List.take_add
  have hm := cutRun_more 65535 (S.take c) ((S.drop c).take k) (by rw [h])
  rw [← e, h] at hm
  have hp : (cutRun 65535 (S.take (c + k))).2.1 = 0 := cutRun_prefix 65535 (S.take (c + k)) (S.drop (c + k)) (by rw [List.take_append_drop]; exact hS)
  have hd := (cutRun_dead 65535 (S.take (c + k))).1 hp
  have hw := cutRun_wait 65535 (S.take (c + k))
  simp only at hm
  show ∃ Z w', cutRun 65535 (w ++ (S.drop c).take k) = (Z, 0, w', false) ∧ _
  have hr : (cutRun 65535 (w ++ (S.drop c).take k)).1.length ≤ S.length := by
    have h1 := cuts_le 65535 (S.take (c + k))
    rw [hm] at h1
    simp only [glueC, List.length_append] at h1
    rw [List.length_take] at h1
    omega
  generalize cutRun 65535 (w ++ (S.drop c).take k) = q at *
  obtain ⟨Z, C, w', D⟩ := q
  rw [hm] at hp hd hw ⊢
  simp only [glueC] at hp hd hw hr ⊢
  subst hp
  subst hd
  rw [List.length_take] at hw
  exact ⟨Z, w', rfl, rfl, by omega, hr⟩
end Go.Proofs.YtbhdoechhfgpeaaRRRDoor
