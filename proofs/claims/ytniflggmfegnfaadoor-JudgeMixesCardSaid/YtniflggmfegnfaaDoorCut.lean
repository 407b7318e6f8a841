/- What the cutter's functions compute. Conditions: the box of a cutter; for Feed, the package errors' variable. -/
import Derived.Test.YtniflggmfegnfaaDoorCutPlain
import Derived.Test.YtniflggmfegnfaaDoorOnly
import Derived.Test.YtniflggmfegnfaaDoorRecRow
import Derived.Test.YtniflggmfegnfaaDoorStore
import Derived.Test.YtniflggmfegnfaaDoorKind
import Derived.Test.YtniflggmfegnfaaDoorAsBox
import Derived.Test.YtniflggmfegnfaaDoorAid
import Derived.BigQuiet
namespace Go.Proofs.YtniflggmfegnfaaDoor
open Go.RowKit

/-- The box of a cutter; of the document's. -/
abbrev cutObj (s : Bs) (most : Int) (d : Bool) : Obj := .cells #[.string (bs s), .int .i64 most, .bool d] 90
theorem cut_set {w : World} {b : Nat} {s : Bs} {most : Int} {d : Bool} (h : w.heap[b]? = some (cutObj s most d)) (rest : Bs) : (w.setCell ⟨b, 0, none⟩ (.string (bs rest))).heap[b]? = some (cutObj rest most d) := set_box h (.string (bs rest))
theorem cut_kill {w : World} {b : Nat} {s : Bs} {most : Int} {d : Bool} (h : w.heap[b]? = some (cutObj s most d)) (x : Bool) : (w.setCell ⟨b, 2, none⟩ (.bool x)).heap[b]? = some (cutObj s most x) := set_box h (.bool x)
theorem cnew_any (most : Int) (w : World) : Calls Tryd.prog 23 #[.int .i64 most] w fun e w' => e = .returned (.pointer (some ⟨w.heap.size, 0, none⟩)) ∧ w' = w.alloc (cutObj [] most false) := by
  go_enter Tryd.func23, Tryd.ntmps23
  go_wp2_with fail
  go_ret
  exact ⟨rfl, rfl⟩
set_option maxRecDepth 100000 in
set_option maxHeartbeats 2000000 in
theorem cnext_large (b : Nat) (s : Bs) (most : Int) (d : Bool) (w : World) (hb : w.heap[b]? = some (cutObj s most d)) (h1 : 6 ≤ s.length) (h2 : at0 s 0 = 1) (h3 : most < at0 s 4 * 256 + at0 s 5) :
    Calls Tryd.prog 28 #[.pointer (some ⟨b, 0, none⟩)] w fun e w' => e = .returned (.tuple #[Rec.zero.v, eV 12]) ∧ w'.heap[b]? = some (cutObj s most d) ∧ Only b w w' := by
  have c0 := box_cells hb 0
  have c1 := box_cells hb 1
  have z := box_lt hb
  have a4 := at0_lo s 4
  have b4 := at0_hi s 4
  have a5 := at0_lo s 5
  have b5 := at0_hi s 5
  have q1 : decide ((6 : Int) ≤ (s.length : Int)) = true := by simp; omega
  have q2 : (at0 s 0 == 1) = true := by simpa using h2
  have q3 : decide (most < at0 s 4 * 256 + at0 s 5) = true := by simpa using h3
  clear h2 h3
  go_enter Tryd.func28, Tryd.ntmps28
  go_wp2_with fail
  go_quiet (fail)
  go_wp2_with fail
  have hne : b ≠ w.heap.size := by omega
  have hbu : ((w.alloc (.cells #[.int .i64 0, .int .i64 0, .string (bs []), .int .i64 0] 33)).drewN nq).heap[b]? = some (cutObj s most d) := keep_new _ hb
  have hon : Only b w ((w.alloc (.cells #[.int .i64 0, .int .i64 0, .string (bs []), .int .i64 0] 33)).drewN nq) := only_below (below_drewN (below_alloc _ _) _)
  exact bodyPost_ret (v := .tuple #[Rec.zero.v, eV 12]) (by simp [results, Tryd.results28, go_sem, Rec.zero]) rfl ⟨rfl, set4_other hbu hne _ _ _ _, only_fresh4 hon (Nat.le_refl _) _ _ _ _⟩

set_option maxRecDepth 100000 in
set_option maxHeartbeats 4000000 in
theorem cnext_read (b : Nat) (s : Bs) (most : Int) (d : Bool) (w : World) (hb : w.heap[b]? = some (cutObj s most d)) (h : ¬ (6 ≤ s.length ∧ at0 s 0 = 1 ∧ most < at0 s 4 * 256 + at0 s 5)) :
    Calls Tryd.prog 28 #[.pointer (some ⟨b, 0, none⟩)] w fun e w' => e = .returned (.tuple #[(recRead s).1.v, errV (recRead s).2.2]) ∧ w'.heap[b]? = some (cutObj (recRead s).2.1 most d) ∧ Only b w w' := by
  have hR := fun w => read_any s w
  generalize (recRead s).1 = x at *
  generalize (recRead s).2.1 = rest at *
  generalize (recRead s).2.2 = C at *
  obtain ⟨xt, xi, xc, xp⟩ := x
  have HR := Lib.hid hR
  clear hR
  have c0 := box_cells hb 0
  have c1 := box_cells hb 1
  have z := box_lt hb
  have a4 := at0_lo s 4
  have b4 := at0_hi s 4
  have a5 := at0_lo s 5
  have b5 := at0_hi s 5
  have arms : (decide ((6 : Int) ≤ (s.length : Int)) = false) ∨ (6 ≤ s.length ∧ decide ((6 : Int) ≤ (s.length : Int)) = true ∧ (at0 s 0 == 1) = false) ∨ (6 ≤ s.length ∧ decide ((6 : Int) ≤ (s.length : Int)) = true ∧ (at0 s 0 == 1) = true ∧ decide (most < at0 s 4 * 256 + at0 s 5) = false) := by
    by_cases h1 : 6 ≤ s.length
    · right
      have q1 : decide ((6 : Int) ≤ (s.length : Int)) = true := by simp; omega
      by_cases h2 : at0 s 0 = 1
      · right
        exact ⟨h1, q1, by simpa using h2, by simp; have h3 : ¬ most < at0 s 4 * 256 + at0 s 5 := fun h3 => h ⟨h1, h2, h3⟩; omega⟩
      · left; exact ⟨h1, q1, by simpa using h2⟩
    · left; simp; omega
  clear h
  rcases arms with q1 | ⟨h1, q1, q2⟩ | ⟨h1, q1, q2, q3⟩
  all_goals
    go_enter Tryd.func28, Tryd.ntmps28
    go_wp2_with fail
    go_quiet (fail)
    go_wp2_with fail
    obtain ⟨u, hu⟩ : ∃ u, u = (w.alloc (.cells #[.int .i64 0, .int .i64 0, .string (bs []), .int .i64 0] 33)).drewN nq := ⟨_, rfl⟩
    have e0 : u.heap[b]? = some (cutObj s most d) := by rw [hu]; exact keep_new _ hb
    have e1 : u.heap[w.heap.size]? = some (.cells #[.int .i64 0, .int .i64 0, .string (bs []), .int .i64 0] 33) := by rw [hu]; exact heap_alloc_new w _
    have W0 : Below w.heap.size w u := by rw [hu]; exact below_drewN (below_alloc _ _) _
    rw [← hu]
    clear hu c0 c1 a4 b4 a5 b5
    refine (HR.out _).mono ?_
    rintro e w1 ⟨rfl, hbw⟩
    replace e0 := kept e0 hbw
    replace e1 := kept e1 hbw
    have W1 := below_later W0 hbw
    clear hbw W0 hb
    have c0 := box_cells e0 0
    have f0 := box_free e0 0
    have z1 := box_lt e0
    have r0 := box_cells e1 0
    have r1 := box_cells e1 1
    have r2 := box_cells e1 2
    have r3 := box_cells e1 3
    have g0 := box_free e1 0
    have g1 := box_free e1 1
    have g2 := box_free e1 2
    have g3 := box_free e1 3
    have z2 := box_lt e1
    have hne : b ≠ w.heap.size := by omega
    go_wp2_with fail
    have hend := keep_new (.cells #[.int .i64 xt, .int .i64 xi, .string (bs xc), .int .i64 xp] 33) (set4_other (cut_set e0 rest) hne (.int .i64 xt) (.int .i64 xi) (.string (bs xc)) (.int .i64 xp))
    have hon : Only b w (w1.setCell ⟨b, 0, none⟩ (.string (bs rest))) := only_trans (only_below W1) (only_set _ _ _)
    have hon4 := only_trans (only_fresh4 hon (Nat.le_refl _) (.int .i64 xt) (.int .i64 xi) (.string (bs xc)) (.int .i64 xp)) (only_new _ (.cells #[.int .i64 xt, .int .i64 xi, .string (bs xc), .int .i64 xp] 33))
    have hrec := keep_new (.cells #[.int .i64 xt, .int .i64 xi, .string (bs xc), .int .i64 xp] 33) (stored_rec (set_other (c := b) (i := 0) e1 (by omega) (.string (bs rest))) (.int .i64 xt) (.int .i64 xi) (.string (bs xc)) (.int .i64 xp))
    have k0 := box_cells hrec 0
    have k1 := box_cells hrec 1
    have k2 := box_cells hrec 2
    have k3 := box_cells hrec 3
    exact bodyPost_ret (v := .tuple #[(⟨xt, xi, xc, xp⟩ : Rec).v, errV C]) (by simp [results, Tryd.results28, go_sem, k0, k1, k2, k3]) rfl ⟨rfl, hend, hon4⟩

theorem cnext_any (b : Nat) (s : Bs) (most : Int) (d : Bool) (w : World) (hb : w.heap[b]? = some (cutObj s most d)) :
    Calls Tryd.prog 28 #[.pointer (some ⟨b, 0, none⟩)] w fun e w' => e = .returned (.tuple #[(cutNext most s).1.v, errV (cutNext most s).2.2]) ∧ w'.heap[b]? = some (cutObj (cutNext most s).2.1 most d) ∧ Only b w w' := by
  unfold cutNext
  split
  next h => exact cnext_large b s most d w hb h.1 h.2.1 h.2.2
  next h => exact cnext_read b s most d w hb h

end Go.Proofs.YtniflggmfegnfaaDoor
