/- What frames.Split and the reference's Split compute: bytes as records. Condition: at most a million bytes. -/
import Derived.Test.YtniflggmfegnfaaDoorRec
import Derived.Test.YtniflggmfegnfaaDoorApp
import Derived.Test.YtniflggmfegnfaaDoorOpen
import Derived.Test.YtniflggmfegnfaaDoorRecRow
namespace Go.Proofs.YtniflggmfegnfaaDoor
open Go.RowKit

/-- Bytes as records: so many of 512, the rest, and an empty one. -/
def splitR (t i : Int) (s : Bs) : List Rec :=
  if _h : s = [] then [⟨t, i, [], 0⟩] else ⟨t, i, s.take 512, padN (min (s.length : Int) 512)⟩ :: splitR t i (s.drop 512)
termination_by s.length
decreasing_by
  have : 0 < s.length := List.length_pos_iff.2 _h
  simp; omega

theorem split_done (t i : Int) (acc : List Rec) (s : Bs) (h : splitR t i s = acc ++ splitR t i []) : splitR t i s = acc ++ [⟨t, i, [], 0⟩] := by
  rw [h]; congr 1; unfold splitR; simp
theorem split_step (t i : Int) (s : Bs) (h : s ≠ []) : splitR t i s = ⟨t, i, s.take 512, padN (min (s.length : Int) 512)⟩ :: splitR t i (s.drop 512) := by
  rw [splitR.eq_def]; simp [h]

theorem split_take (n : Int) (s : Bs) (hn : n = min (s.length : Int) 512) : s.take 512 = s.take n.toNat ∧ s.drop 512 = s.drop n.toNat := by
  by_cases h : s.length ≤ 512
  · have e : n.toNat = s.length := by omega
    rw [e, List.take_of_length_le h, List.drop_of_length_le h, List.take_length, List.drop_length]
    exact ⟨rfl, rfl⟩
  · have e : n.toNat = 512 := by omega
    rw [e]; exact ⟨rfl, rfl⟩
theorem split_more (t i n : Int) (s : Bs) (acc : List Rec) (hn : n = min (s.length : Int) 512) (h : n ≠ 0) : acc ++ splitR t i s = (acc ++ [⟨t, i, s.take n.toNat, padN n⟩]) ++ splitR t i (s.drop n.toNat) := by
  have hs : s ≠ [] := by rintro rfl; apply h; rw [hn]; rfl
  obtain ⟨h1, h2⟩ := split_take n s hn
  rw [split_step t i s hs, h1, h2, hn, List.append_assoc]
  rfl
theorem split_last (t i n : Int) (s : Bs) (acc : List Rec) (hn : n = min (s.length : Int) 512) (h : n = 0) : acc ++ splitR t i s = acc ++ [⟨t, i, s.take n.toNat, padN n⟩] := by
  have hs : s = [] := List.eq_nil_of_length_eq_zero (by omega)
  subst hs
  subst h
  unfold splitR
  rfl

end Go.Proofs.YtniflggmfegnfaaDoor
