/- conduitlaw5.CutterLimits answers true at all arguments, where the package errors' variable holds what it was given. Condition: that. -/
import Derived.Test.YtbhdoechhfgpeaaRRRDoorKnown5
namespace Go.Proofs.YtbhdoechhfgpeaaRRRDoor
open Go.RowKit

theorem six_head (r : Rec) (h : r.Is) : r.bytes.take 6 = [1, u8 r.t, u8 (r.id / 256), u8 r.id, u8 ((r.c.length : Int) / 256), u8 r.c.length] := by
  have e := bytes_head h []
  rw [List.append_nil] at e
  rw [e]
  rfl
theorem six_len (r : Rec) (h : r.Is) : at0 (r.bytes.take 6) 0 = 1 ∧ at0 (r.bytes.take 6) 4 * 256 + at0 (r.bytes.take 6) 5 = r.c.length ∧ (r.bytes.take 6).length = 6 := by
  obtain ⟨_, _, _, _, hc, _, _⟩ := id h
  rw [six_head r h]
  refine ⟨rfl, ?_, rfl⟩
  show ((u8 ((r.c.length : Int) / 256)).toNat : Int) * 256 + ((u8 (r.c.length : Int)).toNat : Int) = _
  rw [u8_cast, u8_cast]
  omega
theorem cutRun_nil (most : Int) : cutRun most [] = ([], 0, [], false) := cutRun_lacks (by rw [cutNext_def, if_neg (fun h => by have := h.1; simp at this), recRead_short (.inl rfl) (by simp)])
theorem lim_more (k : Nat) (r : Rec) (h : r.Is) (hk : r.c.length = k + 1) : cutFeed k false [] (r.bytes.take 6) = ([], 12, [], true) := by
  obtain ⟨h0, h1, h2⟩ := six_len r h
  have hl : Large (k : Int) (r.bytes.take 6) := ⟨by omega, h0, by rw [h1]; omega⟩
  have e : cutNext (k : Int) (r.bytes.take 6) = (Rec.zero, r.bytes.take 6, 12) := by rw [cutNext_def, if_pos hl]
  show cutRun k ([] ++ r.bytes.take 6) = _
  rw [List.nil_append, cutRun_bad (by rw [e]; simp) (by rw [e]; simp), e]
theorem lim_less (k : Nat) (r : Rec) (h : r.Is) (hk : r.c.length = k) : cutFeed k false [] (r.bytes.take 6) = ([], 0, r.bytes.take 6, false) := by
  obtain ⟨h0, h1, h2⟩ := six_len r h
  have e : cutNext (k : Int) (r.bytes.take 6) = (Rec.zero, r.bytes.take 6, 11) := by rw [cutNext_def, if_neg (fun hl => by have := hl.2.2; rw [h1] at this; omega), recRead_short (.inr h0) (by omega)]
  show cutRun k ([] ++ r.bytes.take 6) = _
  rw [List.nil_append, cutRun_lacks (by rw [e])]
theorem lim_rest (k : Nat) (r : Rec) (h : r.Is) (hk : r.c.length = k) : cutFeed k false (r.bytes.take 6) (r.bytes.drop 6) = ([r], 0, [], false) := by
  show cutRun k (r.bytes.take 6 ++ r.bytes.drop 6) = _
  rw [List.take_append_drop]
  have := cutRun_recs k [r] [] (by intro q hq; simp at hq; subst hq; exact ⟨h, by omega⟩)
  rw [cutRun_nil] at this
  simpa [allBytes, glueC] using this

end Go.Proofs.YtbhdoechhfgpeaaRRRDoor
