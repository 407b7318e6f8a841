/- What record.Read computes: the record in front of bytes, what is behind, or what is wrong. Condition: the text is no longer than an int tells. -/
import Derived.Test.YtniflggmfegnfaaDoorRec
import Derived.Test.YtniflggmfegnfaaDoorPlainRec
namespace Go.Proofs.YtniflggmfegnfaaDoor
open Go.RowKit

/-- The error of a code; 0: none. -/
def errV (c : Int) : Value := if c = 0 then .nilIface else eV c
theorem errV_zero : errV 0 = .nilIface := rfl
theorem errV_num {c : Int} (h : c ≠ 0) : errV c = eV c := if_neg h

theorem whole_ver (s : Bs) (w : World) (h1 : ¬ s = []) (h2 : ¬ at0 s 0 = 1) :
    Calls Tryd.prog 49 #[.string (bs s)] w fun e w' => e = .returned (.tuple #[.int .i64 0, eV 13]) ∧ w = w' := by
  have hl : 0 < s.length := List.length_pos_iff.2 h1
  have hb : (s == []) = false := by simpa using h1
  have hc : (at0 s 0 != 1) = true := by simpa using h2
  go_enter Tryd.func49, Tryd.ntmps49
  go_wp2
  go_ret2
  exact ⟨rfl, rfl⟩

theorem whole_short (s : Bs) (w : World) (h1 : s = [] ∨ at0 s 0 = 1) (h2 : s.length < 8) :
    Calls Tryd.prog 49 #[.string (bs s)] w fun e w' => e = .returned (.tuple #[.int .i64 0, eV 11]) ∧ w = w' := by
  by_cases h0 : s = []
  · subst h0
    clear h1
    go_enter Tryd.func49, Tryd.ntmps49
    go_wp2
    go_ret2
    exact ⟨rfl, rfl⟩
  · have h1 := h1.resolve_left h0
    have hl : 0 < s.length := List.length_pos_iff.2 h0
    have hb : (s == []) = false := by simpa using h0
    have hc : (at0 s 0 != 1) = false := by simpa using h1
    go_enter Tryd.func49, Tryd.ntmps49
    go_wp2
    go_ret2
    exact ⟨rfl, rfl⟩

set_option maxRecDepth 100000 in
theorem whole_ok (s : Bs) (w : World) (h1 : at0 s 0 = 1) (h2 : 8 ≤ s.length) :
    Calls Tryd.prog 49 #[.string (bs s)] w fun e w' => e = .returned (.tuple #[.int .i64 (wholeN s), .nilIface]) ∧ Below w.heap.size w w' := by
  have hl : 0 < s.length := by omega
  have hb : (s == []) = false := by cases s <;> simp_all
  have hc : (at0 s 0 != 1) = false := by simpa using h1
  have a4 := at0_lo s 4
  have b4 := at0_hi s 4
  have a5 := at0_lo s 5
  have b5 := at0_hi s 5
  have a6 := at0_lo s 6
  have b6 := at0_hi s 6
  clear h1
  go_enter Tryd.func49, Tryd.ntmps49
  go_wp2
  go_quiet (fail)
  go_wp2
  go_ret2
  exact ⟨rfl, below_drewN (Below.refl _ _) _⟩

theorem read_ver (s : Bs) (w : World) (h1 : ¬ s = []) (h2 : ¬ at0 s 0 = 1) :
    Calls Tryd.prog 38 #[.string (bs s)] w fun e w' => e = .returned (.tuple #[Rec.zero.v, .string (bs s), eV 13]) ∧ Below w.heap.size w w' := by
  go_enter Tryd.func38, Tryd.ntmps38
  go_wp2_with (first
    | (go_at_call 49; refine (whole_ver s _ h1 h2).mono ?_; rintro e w' ⟨rfl, rfl⟩)
    | (go_at_call 11; refine (is_num 13 13 _).mono ?_; rintro e w' ⟨rfl, rfl⟩))
  exact bodyPost_ret (v := .tuple #[Rec.zero.v, .string (bs s), eV 13]) (by simp [results, Tryd.results38, go_sem, Rec.zero]) rfl ⟨rfl, below_alloc _ _⟩

theorem read_short (s : Bs) (w : World) (h1 : s = [] ∨ at0 s 0 = 1) (h2 : s.length < 8) :
    Calls Tryd.prog 38 #[.string (bs s)] w fun e w' => e = .returned (.tuple #[Rec.zero.v, .string (bs s), eV 11]) ∧ Below w.heap.size w w' := by
  go_enter Tryd.func38, Tryd.ntmps38
  go_wp2_with (first
    | (go_at_call 49; refine (whole_short s _ h1 h2).mono ?_; rintro e w' ⟨rfl, rfl⟩)
    | (go_at_call 11; refine (is_num 11 13 _).mono ?_; rintro e w' ⟨rfl, rfl⟩))
  exact bodyPost_ret (v := .tuple #[Rec.zero.v, .string (bs s), eV 11]) (by simp [results, Tryd.results38, go_sem, Rec.zero]) rfl ⟨rfl, below_alloc _ _⟩

/-- What is known of the world behind record.whole, in Read. -/
theorem read_world {w w1 : World} (hb : Below (w.alloc (.cells #[.int .i64 0, .int .i64 0, .string (bs []), .int .i64 0] 33)).heap.size (w.alloc (.cells #[.int .i64 0, .int .i64 0, .string (bs []), .int .i64 0] 33)) w1) :
    w1.cell? ⟨w.heap.size, 0, none⟩ = some (.int .i64 0) ∧ w1.cell? ⟨w.heap.size, 1, none⟩ = some (.int .i64 0) ∧ w1.cell? ⟨w.heap.size, 2, none⟩ = some (.string (bs [])) ∧ w1.cell? ⟨w.heap.size, 3, none⟩ = some (.int .i64 0) ∧
    w1.frozen? ⟨w.heap.size, 0, none⟩ = false ∧ w1.frozen? ⟨w.heap.size, 1, none⟩ = false ∧ w1.frozen? ⟨w.heap.size, 2, none⟩ = false ∧ w1.frozen? ⟨w.heap.size, 3, none⟩ = false ∧ w.heap.size < w1.heap.size := by
  refine ⟨?_, ?_, ?_, ?_, frozen_after hb _, frozen_after hb _, frozen_after hb _, frozen_after hb _, size_after hb⟩ <;> (rw [cell_after hb]; rfl)

theorem below_store4 {w w1 : World} (h : Below w.heap.size w w1) (a b c d : Value) : Below w.heap.size w ((((w1.setCell ⟨w.heap.size, 0, none⟩ a).setCell ⟨w.heap.size, 1, none⟩ b).setCell ⟨w.heap.size, 2, none⟩ c).setCell ⟨w.heap.size, 3, none⟩ d) :=
  (((h.setCell (Nat.le_refl _) _).setCell (Nat.le_refl _) _).setCell (Nat.le_refl _) _).setCell (Nat.le_refl _) _

theorem wholeN_lo (s : Bs) : 8 ≤ wholeN s - at0 s 6 ∧ 0 ≤ at0 s 6 ∧ at0 s 6 < 256 ∧ wholeN s ≤ 66000 := by
  unfold wholeN
  have a4 := at0_lo s 4
  have b4 := at0_hi s 4
  have a5 := at0_lo s 5
  have b5 := at0_hi s 5
  have a6 := at0_lo s 6
  have b6 := at0_hi s 6
  omega

set_option maxHeartbeats 1000000 in
theorem read_lacks (s : Bs) (w : World) (h1 : at0 s 0 = 1) (h2 : 8 ≤ s.length) (h3 : (s.length : Int) < wholeN s) :
    Calls Tryd.prog 38 #[.string (bs s)] w fun e w' => e = .returned (.tuple #[Rec.zero.v, .string (bs s), eV 11]) ∧ Below w.heap.size w w' := by
  have hw := fun w => whole_ok s w h1 h2
  have HW := Lib.hid hw
  clear hw h1
  go_enter Tryd.func38, Tryd.ntmps38
  go_wp2_with (first
    | (go_at_call 49; refine (HW.out _).mono ?_; rintro e w1 ⟨rfl, hb⟩; obtain ⟨c0, c1, c2, c3, f0, f1, f2, f3, hz⟩ := read_world hb; replace hb := below_after hb)
    | (go_at_call 11; refine (is_nil 13 _).mono ?_; rintro e w' ⟨rfl, rfl⟩))
  exact bodyPost_ret (v := .tuple #[Rec.zero.v, .string (bs s), eV 11]) (by simp [results, Tryd.results38, go_sem, Rec.zero, c0, c1, c2, c3]) rfl ⟨rfl, below_store4 hb _ _ _ _⟩

set_option maxHeartbeats 1000000 in
theorem read_form (s : Bs) (w : World) (h1 : at0 s 0 = 1) (h2 : 8 ≤ s.length) (h3 : wholeN s ≤ (s.length : Int)) (h4 : at0 s 1 = 0) :
    Calls Tryd.prog 38 #[.string (bs s)] w fun e w' => e = .returned (.tuple #[Rec.zero.v, .string (bs s), eV 10]) ∧ Below w.heap.size w w' := by
  have hw := fun w => whole_ok s w h1 h2
  have HW := Lib.hid hw
  have hq : (at0 s 1 == 0) = true := by simpa using h4
  clear hw h1 h4
  go_enter Tryd.func38, Tryd.ntmps38
  go_wp2_with (first
    | (go_at_call 49; refine (HW.out _).mono ?_; rintro e w1 ⟨rfl, hb⟩; obtain ⟨c0, c1, c2, c3, f0, f1, f2, f3, hz⟩ := read_world hb; replace hb := below_after hb)
    | (go_at_call 11; refine (is_nil 13 _).mono ?_; rintro e w' ⟨rfl, rfl⟩))
  exact bodyPost_ret (v := .tuple #[Rec.zero.v, .string (bs s), eV 10]) (by simp [results, Tryd.results38, go_sem, Rec.zero, c0, c1, c2, c3]) rfl ⟨rfl, below_store4 hb _ _ _ _⟩

set_option maxRecDepth 100000 in
set_option maxHeartbeats 2000000 in
theorem read_ok (s : Bs) (w : World) (h1 : at0 s 0 = 1) (h2 : 8 ≤ s.length) (h3 : wholeN s ≤ (s.length : Int)) (h4 : ¬ at0 s 1 = 0) :
    Calls Tryd.prog 38 #[.string (bs s)] w fun e w' => e = .returned (.tuple #[(front s).v, .string (bs (s.drop (wholeN s).toNat)), .nilIface]) ∧ Below w.heap.size w w' := by
  have hw := fun w => whole_ok s w h1 h2
  have HW := Lib.hid hw
  have hq : (at0 s 1 == 0) = false := by simpa using h4
  obtain ⟨k0, k1, k2, k3⟩ := wholeN_lo s
  have a1 := at0_lo s 1
  have b1 := at0_hi s 1
  have a2 := at0_lo s 2
  have b2 := at0_hi s 2
  have a3 := at0_lo s 3
  have b3 := at0_hi s 3
  clear hw h1 h4
  go_enter Tryd.func38, Tryd.ntmps38
  go_wp2_with (first
    | (go_at_call 49; refine (HW.out _).mono ?_; rintro e w1 ⟨rfl, hb⟩; obtain ⟨c0, c1, c2, c3, f0, f1, f2, f3, hz⟩ := read_world hb; replace hb := below_after hb)
    | (go_at_call 11; refine (is_nil 13 _).mono ?_; rintro e w' ⟨rfl, rfl⟩))
  go_region
  go_wp2
  go_region
  go_wp2
  refine bodyPost_ret (v := .tuple #[(front s).v, .string (bs (s.drop (wholeN s).toNat)), .nilIface]) (by simp [results, Tryd.results38, go_sem, front, c0, c1, c2, c3, hz]) rfl ⟨rfl, ?_⟩
  exact ((below_store4 hb _ _ _ _).alloc (by simp; omega) _).drew.drew

theorem read_any (s : Bs) (w : World) :
    Calls Tryd.prog 38 #[.string (bs s)] w fun e w' => e = .returned (.tuple #[(recRead s).1.v, .string (bs (recRead s).2.1), errV (recRead s).2.2]) ∧ Below w.heap.size w w' := by
  by_cases h1 : s = [] ∨ at0 s 0 = 1
  · by_cases h2 : s.length < 8
    · rw [recRead_short h1 h2]; exact read_short s w h1 h2
    · have h2 : 8 ≤ s.length := by omega
      have h1 : at0 s 0 = 1 := by
        rcases h1 with rfl | h
        · simp at h2
        · exact h
      by_cases h3 : (s.length : Int) < wholeN s
      · rw [recRead_lacks h1 h2 h3]; exact read_lacks s w h1 h2 h3
      · have h3 : wholeN s ≤ (s.length : Int) := by omega
        by_cases h4 : at0 s 1 = 0
        · rw [recRead_form h1 h2 h3 h4]; exact read_form s w h1 h2 h3 h4
        · rw [recRead_ok h1 h2 h3 h4]; exact read_ok s w h1 h2 h3 h4
  · have a : ¬ s = [] := fun h => h1 (.inl h)
    have b : ¬ at0 s 0 = 1 := fun h => h1 (.inr h)
    rw [recRead_ver a b]; exact read_ver s w a b
end Go.Proofs.YtniflggmfegnfaaDoor
