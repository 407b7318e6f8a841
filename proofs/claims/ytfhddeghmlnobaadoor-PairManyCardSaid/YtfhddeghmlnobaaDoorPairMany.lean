/- conduitlaw3.PairMany answers true at every number, where the package errors' variable holds what it was given. Condition: that. -/
import Derived.Test.YtfhddeghmlnobaaDoorKnown3
namespace Go.Proofs.YtfhddeghmlnobaaDoor
open Go.RowKit

theorem rep_more (k : Nat) (p : Bs × Bs) : pairB (List.replicate k p) ++ pairB [p] = pairB (List.replicate (k + 1) p) := by
  rw [← pairB_append, List.replicate_succ']

set_option maxRecDepth 100000 in
set_option maxHeartbeats 4000000 in
theorem pm_any (n : Int) (w : World) (hn0 : 0 ≤ n) (hn1 : n < 256) (hg : w.cell? ⟨0, 0, none⟩ = some errTypeV) :
    Calls Tryd.prog 6 #[.int .u8 n] w fun e w' => e = .returned (.bool true) ∧ Below w.heap.size w w' := by
  have hg' : ∀ w', Below w.heap.size w w' → w'.cell? ⟨0, 0, none⟩ = some errTypeV := fun w' hb => by rw [hb.cell (World.block_lt_of_cell? w _ hg)]; exact hg
  have HG := Lib.hid hg'
  clear hg hg'
  have hB : ∀ u : World, Calls Tryd.prog 14 #[.slice (some ⟨u.heap.size, 0, none⟩) 1 1] (u.alloc (.cells #[.string (bs [97]), .string (bs [])] 26)) fun e w' => e = .returned (.string (bs [1, 0, 97])) ∧ Below (u.alloc (.cells #[.string (bs [97]), .string (bs [])] 26)).heap.size (u.alloc (.cells #[.string (bs [97]), .string (bs [])] 26)) w' := by
    intro u
    refine pbytes_some u.heap.size 0 1 [([97], [])] _ (by simp) (fun _ => by simp) (by simp) ?_
    intro k hk
    have : k = 0 := by simpa using hk
    subst this
    have b0 : (u.alloc (.cells #[.string (bs [97]), .string (bs [])] 26)).heap[u.heap.size]? = some (.cells #[.string (bs [97]), .string (bs [])] 26) := heap_alloc_new u _
    exact ⟨box_cells b0 0, box_cells b0 1⟩
  have HB := Lib.hid hB
  clear hB
  obtain ⟨m, hm, hm0, hm1⟩ : ∃ m : Nat, 198 + n % 5 = (m : Int) ∧ 198 ≤ m ∧ m ≤ 202 := ⟨(198 + n % 5).toNat, by omega, by omega, by omega⟩
  go_enter Tryd.func6, Tryd.ntmps6
  go_wp2_with fail
  refine (known3 _ (HG.out _ (Below.refl _ _))).mono ?_
  rintro e w1 ⟨rfl, W1⟩
  go_wp2_with fail
  try rw [hm]
  clear hm
  go_loopw [4, 5] (fun s i wr => ∃ k : Nat, k ≤ m ∧ i = .int .i64 k ∧ s = .string (bs (pairB (List.replicate k ([97], [])))) ∧ Below w.heap.size w wr) (fun _ i _ => m - (intOf i).toNat)
  case atStart => exact ⟨0, Nat.zero_le _, rfl, rfl, W1⟩
  case round =>
    obtain ⟨k, hk, rfl, rfl, hW⟩ := hrel
    by_cases hlt : k < m
    · have hmore := rep_more k ([97], [])
      have hle := pairB_le 1 (List.replicate k ([97], [])) (by simp)
      rw [List.length_replicate] at hle
      rw [show pairB [([97], [])] = [1, 0, 97] from rfl] at hmore
      generalize pairB (List.replicate k ([97], [])) = z at *
      have hz : z.length ≤ 100000 := by omega
      have HM := Lib.hid hmore
      clear hmore hle
      go_wp2_with fail
      refine (HB.out _).mono ?_
      rintro e w2 ⟨rfl, hb⟩
      have W2 := below_later hW (below_after hb)
      clear hb
      go_wp2_with fail
      go_roundw
      case rel => exact ⟨k + 1, by omega, by go_num, by rw [HM.out], W2⟩
      case measure => simp [intOf]; omega
    · obtain rfl : k = m := by omega
      have hF : ∀ p ∈ List.replicate k (([97] : Bs), ([] : Bs)), p.1.length ≤ 2147483647 ∧ p.2.length ≤ 2147483647 := by
        intro p hp
        rw [(List.mem_replicate.1 hp).2]
        simp
      have hA := fun u hg => pread_any (pairB (List.replicate k ([97], []))) u hg
      by_cases h200 : 200 < k
      · rw [readP_many _ 0 hF (by rw [List.length_replicate]; omega) (by omega)] at hA
        simp only at hA
        rw [errV_num (by decide)] at hA
        have HA := Lib.hid hA
        have q : decide ((200 : Int) < (k : Int)) = true := by simp; omega
        clear hA hF
        generalize pairB (List.replicate k ([97], [])) = z at *
        go_wp2_with fail
        refine (HA.out _ (HG.out _ hW)).mono ?_
        rintro e w3 ⟨v, rfl, o3, hb⟩
        obtain ⟨a, cap, rfl⟩ := own_slice o3
        have W3 := below_later hW hb
        simp only [List.length_nil]
        clear hb o3
        go_wp2_with fail
        refine (is_num 12 12 _).mono ?_
        rintro e w5 ⟨rfl, rfl⟩
        go_wp2_with fail
        go_ret
        exact ⟨rfl, W3⟩
      · rw [readP_pairs _ 0 hF (by rw [List.length_replicate]; omega)] at hA
        simp only [errV_zero] at hA
        have HA := Lib.hid hA
        have q : decide ((200 : Int) < (k : Int)) = false := by simp; omega
        clear hA hF
        generalize pairB (List.replicate k ([97], [])) = z at *
        go_wp2_with fail
        refine (HA.out _ (HG.out _ hW)).mono ?_
        rintro e w3 ⟨v, rfl, o3, hb⟩
        obtain ⟨a, cap, rfl⟩ := own_slice o3
        have W3 := below_later hW hb
        simp only [List.length_replicate]
        clear hb o3
        go_wp2_with fail
        go_ret
        exact ⟨rfl, W3⟩
theorem pm_said (n : Int) (w : World) (hn : 0 ≤ n ∧ n < 256) (hg : w.cell? ⟨0, 0, none⟩ = some errTypeV) :
    Calls Tryd.prog 6 #[.int .u8 n] w fun e w' => e = .returned (.bool true) ∧ Below w.heap.size w w' := pm_any n w hn.1 hn.2 hg
end Go.Proofs.YtfhddeghmlnobaaDoor
