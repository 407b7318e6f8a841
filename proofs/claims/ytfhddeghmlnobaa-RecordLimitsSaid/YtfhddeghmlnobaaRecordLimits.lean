/- conduitlaw2.RecordLimits answers true at every two bytes. No condition. -/
import Derived.Test.YtfhddeghmlnobaaKnown2
import Derived.Test.YtfhddeghmlnobaaAid
namespace Go.Proofs.Ytfhddeghmlnobaa
open Go.RowKit

set_option maxRecDepth 100000 in
set_option maxHeartbeats 4000000 in
theorem rl_over (n m : Int) (w : World) (hn : 0 ≤ n) (hn' : n < 256) (hm : 0 ≤ m) (hm' : m < 256) (hov : 65535 < 65534 + n % 3 ∨ 255 < 254 + m % 3) :
    Calls Try.prog 8 #[.int .u8 n, .int .u8 m] w fun e w' => e = .returned (.bool true) ∧ Below w.heap.size w w' := by
  have hmk := fun w => make_bytes w (65534 + n % 3) (by omega) (by omega)
  have htx := fun w => text_made w (65534 + n % 3).toNat (by unfold maxLen; omega)
  go_enter Try.func8, Try.ntmps8
  go_wp2_with fail
  refine (known2 _).mono ?_
  rintro e w1 ⟨rfl, hb⟩
  have W1 := hb
  clear hb
  go_wp2_with fail
  clear hmk htx
  generalize hk : 65534 + n % 3 = k at *
  generalize hp : 254 + m % 3 = p at *
  have k0 : 65534 ≤ k := by omega
  have k1 : k ≤ 65536 := by omega
  have p0 : 254 ≤ p := by omega
  have p1 : p ≤ 256 := by omega
  clear hk hp hn hn' hm hm'
  have hl : ((List.replicate k.toNat (0 : UInt8)).length : Int) = k := by rw [List.length_replicate]; omega
  generalize hc : List.replicate k.toNat (0 : UInt8) = c at *
  have hI : ¬ (⟨6, 65535, c, p⟩ : Rec).Is := by unfold Rec.Is; simp only; omega
  have hB := fun w => bytes_any ⟨6, 65535, c, p⟩ w (by simp only; omega)
  have hS := fun w => is_any ⟨6, 65535, c, p⟩ w (by simp only; omega)
  rw [decide_eq_false hI] at hS
  rw [bytes_none hI] at hB
  have HB := Lib.hid hB
  have HS := Lib.hid hS
  have HL := Lib.hid hl
  have HC := Lib.hid hc
  clear hB hS hl hc hI
  refine (HB.out _).mono ?_
  rintro e w2 ⟨rfl, hb⟩
  have r2 := new_alloc2 hb
  have W2 := below_later W1 (below_after2 hb)
  clear hb W1
  have z2 := box_lt r2
  have c2 := box_cells r2
  have hov2 : 65535 < k ∨ (k ≤ 65535 ∧ 255 < p) := by omega
  clear hov
  rcases hov2 with hov | ⟨hov, hov'⟩
  all_goals
    go_wp2_with fail
    refine (HS.out _).mono ?_
    rintro e w3 ⟨rfl, hb⟩
    have W3 := below_later W2 hb
    clear hb r2 c2
    go_wp2_with fail
    go_ret
    exact ⟨rfl, W3⟩

set_option maxRecDepth 100000 in
set_option maxHeartbeats 4000000 in
theorem rl_in (n m : Int) (w : World) (hn : 0 ≤ n) (hn' : n < 256) (hm : 0 ≤ m) (hm' : m < 256) (hin : 65534 + n % 3 ≤ 65535 ∧ 254 + m % 3 ≤ 255) :
    Calls Try.prog 8 #[.int .u8 n, .int .u8 m] w fun e w' => e = .returned (.bool true) ∧ Below w.heap.size w w' := by
  have hmk := fun w => make_bytes w (65534 + n % 3) (by omega) (by omega)
  have htx := fun w => text_made w (65534 + n % 3).toNat (by unfold maxLen; omega)
  go_enter Try.func8, Try.ntmps8
  go_wp2_with fail
  refine (known2 _).mono ?_
  rintro e w1 ⟨rfl, hb⟩
  have W1 := hb
  clear hb
  go_wp2_with fail
  clear hmk htx
  generalize hk : 65534 + n % 3 = k at *
  generalize hp : 254 + m % 3 = p at *
  have k0 : 65534 ≤ k := by omega
  have k1 : k ≤ 65535 := by omega
  have p0 : 254 ≤ p := by omega
  have p1 : p ≤ 255 := by omega
  clear hk hp hn hn' hm hm' hin
  have hl : ((List.replicate k.toNat (0 : UInt8)).length : Int) = k := by rw [List.length_replicate]; omega
  generalize hc : List.replicate k.toNat (0 : UInt8) = c at *
  have hI : (⟨6, 65535, c, p⟩ : Rec).Is := by unfold Rec.Is; simp only; omega
  have hB := fun w => bytes_any ⟨6, 65535, c, p⟩ w (by simp only; omega)
  have hS := fun w => is_any ⟨6, 65535, c, p⟩ w (by simp only; omega)
  rw [decide_eq_true hI] at hS
  have hR := fun w => read_any (⟨6, 65535, c, p⟩ : Rec).bytes w
  have hbk := read_back hI []
  rw [List.append_nil] at hbk
  rw [hbk, errV_zero] at hR
  have hlen := bytes_length hI
  simp only at hlen
  have hC := fun w => read_any ((⟨6, 65535, c, p⟩ : Rec).bytes.take ((⟨6, 65535, c, p⟩ : Rec).bytes.length - 1)) w
  rw [read_cut hI _ (by omega), errV_num (by show (11 : Int) ≠ 0; decide)] at hC
  have l0 : 65796 ≤ (⟨6, 65535, c, p⟩ : Rec).bytes.length := by omega
  have l1 : (⟨6, 65535, c, p⟩ : Rec).bytes.length ≤ 65798 := by omega
  have hq : ((((⟨6, 65535, c, p⟩ : Rec).bytes.length : Int)) == 8 + k + p) = true := by simp; omega
  generalize hs : (⟨6, 65535, c, p⟩ : Rec).bytes = s at *
  have HB := Lib.hid hB
  have HS := Lib.hid hS
  have HR := Lib.hid hR
  have HC := Lib.hid hC
  clear hB hS hR hC hl hc hI hbk hlen hs
  refine (HB.out _).mono ?_
  rintro e w2 ⟨rfl, hb⟩
  have r2 := new_alloc2 hb
  have W2 := below_later W1 (below_after2 hb)
  clear hb W1
  have z2 := box_lt r2
  have c2 := box_cells r2
  go_wp2_with fail
  refine (HR.out _).mono ?_
  rintro e w3 ⟨rfl, hb⟩
  have r3 := kept r2 hb
  have W3 := below_later W2 hb
  clear hb r2 c2 W2
  go_wp2_with fail
  rw [show (max 0 ((s.length : Int) - 1)).toNat = s.length - 1 from by omega]
  refine (HC.out _).mono ?_
  rintro e w4 ⟨rfl, hb⟩
  have r4 := kept_alloc r3 hb
  have x4 := new_alloc hb
  have W4 := below_later W3 (below_after hb)
  clear hb r3 W3 z2
  have cr := box_cells r4
  have cx := box_cells x4
  have zr := box_lt r4
  have zx := box_lt x4
  go_wp2_with fail
  refine (HS.out _).mono ?_
  rintro e w5 ⟨rfl, hb⟩
  have r5 := kept_alloc r4 hb
  have x5 := kept_alloc x4 hb
  have W5 := below_later W4 (below_after hb)
  clear hb r4 x4 W4 cr cx zr zx
  have cr := box_cells r5
  have cx := box_cells x5
  go_wp2_with fail
  refine (is_num 11 11 _).mono ?_
  rintro e w' ⟨rfl, rfl⟩
  go_wp2_with fail
  go_ret
  exact ⟨rfl, W5⟩

theorem rl_said (n m : Int) (w : World) (wn : (Lit.int .u8 n).wf = true) (wm : (Lit.int .u8 m).wf = true) :
    Calls Try.prog 8 #[.int .u8 n, .int .u8 m] w fun e w' => e = .returned (.bool true) ∧ Below w.heap.size w w' := by
  obtain ⟨hn, hn'⟩ := wf_u8 wn
  obtain ⟨hm, hm'⟩ := wf_u8 wm
  by_cases h : 65534 + n % 3 ≤ 65535 ∧ 254 + m % 3 ≤ 255
  · exact rl_in n m w hn hn' hm hm' h
  · exact rl_over n m w hn hn' hm hm' (by omega)
end Go.Proofs.Ytfhddeghmlnobaa
