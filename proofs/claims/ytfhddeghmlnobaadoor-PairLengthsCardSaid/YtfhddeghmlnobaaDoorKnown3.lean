/- conduitlaw3.known answers true, where the package errors' variable holds what it was given. Condition: that. -/
import Derived.Test.YtfhddeghmlnobaaDoorPairPlain
import Derived.Test.YtfhddeghmlnobaaDoorSamePairs
namespace Go.Proofs.YtfhddeghmlnobaaDoor
open Go.RowKit

theorem k3_bad : readP 0 [1] = ([], 11) := by
  have h : oneP [1] = none := by
    unfold oneP
    rw [if_neg]
    rintro ⟨_, h, _⟩
    exact h.1 (by unfold lenTail; split <;> rfl)
  rw [readP.eq_def, if_neg (by simp), dif_neg (by omega), h]

set_option maxRecDepth 100000 in
set_option maxHeartbeats 4000000 in
theorem known3 (w : World) (hg : w.cell? ⟨0, 0, none⟩ = some errTypeV) : Calls Tryd.prog 13 #[] w fun e w' => e = .returned (.bool true) ∧ Below w.heap.size w w' := by
  have hg' : ∀ w', Below w.heap.size w w' → w'.cell? ⟨0, 0, none⟩ = some errTypeV := fun w' hb => by rw [hb.cell (World.block_lt_of_cell? w _ hg)]; exact hg
  have HG := Lib.hid hg'
  clear hg hg'
  obtain ⟨l, hl⟩ : ∃ l : List (Bs × Bs), l = [([97, 98], [99]), ([], [])] := ⟨_, rfl⟩
  have hl2 : l.length = 2 := by rw [hl]; rfl
  have hlB : pairB l = [2, 1, 97, 98, 99, 0, 0] := by rw [hl]; rfl
  have hlR : readP 0 [2, 1, 97, 98, 99, 0, 0] = (l, 0) := by rw [← hlB]; exact readP_pairs l 0 (by rw [hl]; simp) (by rw [hl2]; omega)
  have hR : ∀ u : World, u.heap[w.heap.size]? = some (.cells #[.string (bs [97, 98]), .string (bs [99]), .string (bs []), .string (bs [])] 26) → Reads u (.slice (some ⟨w.heap.size, 0, none⟩) 2 2) 2 l.length (l.flatMap pairCells) := by
    intro u hu
    refine ⟨by rw [hl]; rfl, by rw [hl2]; unfold maxLen; omega, some ⟨w.heap.size, 0, none⟩, 2, by rw [hl2], by rw [hl2]; omega, by unfold maxLen; omega, fun _ => ⟨_, _, rfl, ?_⟩⟩
    intro j x hj
    rw [Nat.zero_add, box_cells hu, ← Array.getElem?_toList, ← hj, hl]
    rfl
  have HRd := Lib.hid hR
  have hP := fun u (h : u.heap[w.heap.size]? = some (.cells #[.string (bs [97, 98]), .string (bs [99]), .string (bs []), .string (bs [])] 26)) => pbytes_any l _ u (hR u h) (by rw [hl2]; omega) (by rw [hl]; simp)
  rw [hlB] at hP
  have HP := Lib.hid hP
  have hA := fun u hg => pread_any [2, 1, 97, 98, 99, 0, 0] u hg
  rw [hlR] at hA
  simp only [errV_zero] at hA
  have HA := Lib.hid hA
  have hB := fun u hg => pread_any [1] u hg
  rw [k3_bad] at hB
  simp only at hB
  rw [errV_num (by decide)] at hB
  have HB := Lib.hid hB
  have hN1 := fun u => len_any 127 u (by decide) (by decide)
  have hN2 := fun u => len_any 128 u (by decide) (by decide)
  rw [show lenB 127 = [127] from rfl] at hN1
  rw [show lenB 128 = [128, 0, 0, 128] from rfl] at hN2
  have HN1 := Lib.hid hN1
  have HN2 := Lib.hid hN2
  clear hR hP hA hB hN1 hN2 hlB hlR hl
  go_enter Tryd.func13, Tryd.ntmps13
  go_wp2_with fail
  have b0 : (w.alloc (.cells #[.string (bs [97, 98]), .string (bs [99]), .string (bs []), .string (bs [])] 26)).heap[w.heap.size]? = some (.cells #[.string (bs [97, 98]), .string (bs [99]), .string (bs []), .string (bs [])] 26) := heap_alloc_new w _
  refine (HP.out _ b0).mono ?_
  rintro e w1 ⟨rfl, hb⟩
  replace b0 := kept b0 hb
  have W1 := below_after hb
  clear hb
  go_wp2_with fail
  refine (HA.out _ (HG.out _ W1)).mono ?_
  rintro e w2 ⟨v2, rfl, o2, hb⟩
  replace b0 := kept b0 hb
  have W2 := below_later W1 hb
  clear hb W1
  go_wp2_with fail
  refine (HB.out _ (HG.out _ W2)).mono ?_
  rintro e w3 ⟨v3, rfl, o3, hb⟩
  replace b0 := kept b0 hb
  have W3 := below_later W2 hb
  replace o2 := own_kept o2 hb
  clear hb W2 o3
  go_wp2_with fail
  refine (samep_any l _ v2 w3 (by omega) (HRd.out w3 b0) (own_reads o2)).mono ?_
  rintro e w4 ⟨rfl, hb⟩
  have W4 := below_later W3 hb
  clear hb W3 o2 b0
  go_wp2_with fail
  refine (is_num 11 11 _).mono ?_
  rintro e w5 ⟨rfl, rfl⟩
  go_wp2_with fail
  refine (HN1.out _).mono ?_
  rintro e w6 ⟨rfl, hb⟩
  have W6 := below_later W4 hb
  clear hb W4
  go_wp2_with fail
  refine (HN2.out _).mono ?_
  rintro e w7 ⟨rfl, hb⟩
  have W7 := below_later W6 hb
  clear hb W6
  go_wp2_with fail
  go_ret
  exact ⟨rfl, W7⟩
end Go.Proofs.YtfhddeghmlnobaaDoor
