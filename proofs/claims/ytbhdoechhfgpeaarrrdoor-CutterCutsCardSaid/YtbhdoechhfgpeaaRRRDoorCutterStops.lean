/- conduitlaw5.CutterStops answers true at all arguments, where the package errors' variable holds what it was given. Condition: that. -/
import Derived.Test.YtbhdoechhfgpeaaRRRDoorCutterLimits
import Derived.Test.YtbhdoechhfgpeaaRRRDoorSameRecs
import Derived.Test.YtbhdoechhfgpeaaRRRDoorOpen
import Derived.Test.YtbhdoechhfgpeaaRRRDoorAppRec
namespace Go.Proofs.YtbhdoechhfgpeaaRRRDoor
open Go.RowKit

def badB (k : Nat) : Bs := if k = 0 then [7] else if k = 1 then [1, 6, 0, 1, 1, 0] else [1, 0, 0, 1, 0, 0, 0, 0]
def badC (k : Nat) : Int := if k = 0 then 13 else if k = 1 then 12 else 10
set_option maxRecDepth 100000 in
theorem bad_run (k : Nat) (hk : k < 3) (tail : Bs) : cutRun 200 (badB k ++ tail) = ([], badC k, [], true) := by
  have h : (cutNext 200 (badB k ++ tail)).2.2 = badC k := by
    match k, hk with
    | 0, _ =>
      show (cutNext 200 ((7 : UInt8) :: tail)).2.2 = 13
      have e : at0 ((7 : UInt8) :: tail) 0 = 7 := rfl
      rw [cutNext_def, if_neg (fun x => by have := x.2.1; rw [e] at this; omega), recRead_ver (by simp) (by rw [e]; omega)]
    | 1, _ =>
      show (cutNext 200 ([1, 6, 0, 1, 1, 0] ++ tail)).2.2 = 12
      have e4 : at0 ([1, 6, 0, 1, 1, 0] ++ tail) 4 = 1 := rfl
      have e5 : at0 ([1, 6, 0, 1, 1, 0] ++ tail) 5 = 0 := rfl
      rw [cutNext_def, if_pos ⟨by simp, rfl, by rw [e4, e5]; omega⟩]
    | 2, _ =>
      show (cutNext 200 ([1, 0, 0, 1, 0, 0, 0, 0] ++ tail)).2.2 = 10
      have e4 : at0 ([1, 0, 0, 1, 0, 0, 0, 0] ++ tail) 4 = 0 := rfl
      have e5 : at0 ([1, 0, 0, 1, 0, 0, 0, 0] ++ tail) 5 = 0 := rfl
      have e6 : at0 ([1, 0, 0, 1, 0, 0, 0, 0] ++ tail) 6 = 0 := rfl
      have hw : wholeN ([1, 0, 0, 1, 0, 0, 0, 0] ++ tail) = 8 := by unfold wholeN; rw [e4, e5, e6]; rfl
      rw [cutNext_def, if_neg (fun x => by have := x.2.2; rw [e4, e5] at this; omega), recRead_form rfl (by simp) (by rw [hw]; simp; omega) rfl]
  have hc : badC k = 13 ∨ badC k = 12 ∨ badC k = 10 := by unfold badC; split <;> (try split) <;> simp
  rw [cutRun_bad (by rw [h]; omega) (by rw [h]; omega), h]

/-- The two feedings. -/
theorem stops_plain (l : List Rec) (hl : ∀ r ∈ l, r.Is ∧ r.c.length ≤ 100) (j k : Nat) (hk : k < 3) (tail : Bs) :
    ∃ a w b, cutFeed 200 false [] ((allBytes l).take j) = (a, 0, w, false) ∧ cutFeed 200 false w ((allBytes l).drop j ++ badB k ++ tail) = (b, badC k, [], true) ∧ a ++ b = l ∧ w.length ≤ (allBytes l).length := by
  have hF : ∀ r ∈ l, r.Is ∧ (r.c.length : Int) ≤ 200 := fun r hr => ⟨(hl r hr).1, by have := (hl r hr).2; omega⟩
  have h0 := cutRun_recs 200 l [] hF
  rw [cutRun_nil, List.append_nil] at h0
  have hp : (cutRun 200 ((allBytes l).take j)).2.1 = 0 := cutRun_prefix 200 ((allBytes l).take j) ((allBytes l).drop j) (by rw [List.take_append_drop, h0]; rfl)
  have h1 := cutRun_recs 200 l (badB k ++ tail) hF
  rw [bad_run k hk tail] at h1
  have h2 := cutRun_more 200 ((allBytes l).take j) ((allBytes l).drop j ++ badB k ++ tail) hp
  rw [← List.append_assoc, ← List.append_assoc, List.take_append_drop, List.append_assoc, h1] at h2
  have hd := (cutRun_dead 200 ((allBytes l).take j)).1 hp
  have hwt := cutRun_wait 200 ((allBytes l).take j)
  refine ⟨(cutRun 200 ((allBytes l).take j)).1, (cutRun 200 ((allBytes l).take j)).2.2.1, (cutRun 200 ((cutRun 200 ((allBytes l).take j)).2.2.1 ++ ((allBytes l).drop j ++ badB k ++ tail))).1, ?_, ?_, ?_, ?_⟩
  · show cutRun 200 ([] ++ (allBytes l).take j) = _
    rw [List.nil_append]
    generalize cutRun 200 ((allBytes l).take j) = q at *
    obtain ⟨q1, q2, q3, q4⟩ := q
    simp only at hp hd
    rw [hp, hd]
  · show cutRun 200 ((cutRun 200 ((allBytes l).take j)).2.2.1 ++ ((allBytes l).drop j ++ badB k ++ tail)) = _
    generalize cutRun 200 ((cutRun 200 ((allBytes l).take j)).2.2.1 ++ ((allBytes l).drop j ++ badB k ++ tail)) = q at *
    obtain ⟨q1, q2⟩ := q
    have := congrArg Prod.snd h2
    simp only [glueC] at this
    rw [← this]
  · have := congrArg Prod.fst h2
    simp only [glueC, List.append_nil] at this
    exact this.symm
  · rw [List.length_take] at hwt; omega

theorem allBytes_take (rs : List Rec) (k : Nat) (h : k < rs.length) : allBytes (rs.take (k + 1)) = allBytes (rs.take k) ++ (rs[k]).bytes := by
  unfold allBytes
  rw [List.take_succ_eq_append_getElem h, List.flatMap_append]
  simp
theorem allBytes_le : ∀ (l : List Rec), (∀ r ∈ l, r.Is ∧ r.c.length ≤ 100) → (allBytes l).length ≤ 400 * l.length
  | [], _ => by simp [allBytes]
  | r :: l, h => by
    have h1 := h r (by simp)
    have h2 := allBytes_le l (fun q hq => h q (by simp [hq]))
    have h3 := bytes_length h1.1
    have h4 : r.p ≤ 255 := h1.1.2.2.2.2.2.2
    rw [allBytes_cons, List.length_append, List.length_cons]
    omega

end Go.Proofs.YtbhdoechhfgpeaaRRRDoor
