/- conduitlaw2.RecordBack answers true: at every type, id, content, with or without padding, whatever is behind, wherever it is cut off. No condition. -/
import Derived.Test.YtfhddeghmlnobaaKnown2
import Derived.OpenShut
namespace Go.Proofs.Ytfhddeghmlnobaa
open Go.RowKit

theorem rb_early (t id cut : Int) (c more : Bs) (pad : Bool) (w : World) (h : 2000 < c.length ∨ 200 < more.length ∨ t = 0) (hc : c.length ≤ 9223372036854775807) (hm : more.length ≤ 9223372036854775807) :
    Calls Try.prog 6 #[.int .u8 t, .int .u16 id, .string (bs c), .bool pad, .string (bs more), .int .u16 cut] w fun e w' => e = .returned (.bool true) ∧ Below w.heap.size w w' := by
  by_cases h1 : 2000 < c.length
  · clear h
    go_enter Try.func6, Try.ntmps6
    go_wp2_with (go_at_call 24; refine (known2 _).mono ?_; rintro e w1 ⟨rfl, hb⟩)
    go_ret
    exact ⟨rfl, hb⟩
  · by_cases h2 : 200 < more.length
    · clear h
      go_enter Try.func6, Try.ntmps6
      go_wp2_with (go_at_call 24; refine (known2 _).mono ?_; rintro e w1 ⟨rfl, hb⟩)
      go_ret
      exact ⟨rfl, hb⟩
    · obtain rfl : t = 0 := by omega
      clear h
      go_enter Try.func6, Try.ntmps6
      go_wp2_with (go_at_call 24; refine (known2 _).mono ?_; rintro e w1 ⟨rfl, hb⟩)
      go_ret
      exact ⟨rfl, hb⟩

set_option maxRecDepth 100000 in
set_option maxHeartbeats 4000000 in
theorem rb_pad (t id cut : Int) (c more : Bs) (w : World) (ht : 0 < t) (ht' : t < 256) (hi : 0 ≤ id) (hi' : id < 65536) (hk : 0 ≤ cut) (hk' : cut < 65536) (hc : c.length ≤ 2000) (hm : more.length ≤ 200) :
    Calls Try.prog 6 #[.int .u8 t, .int .u16 id, .string (bs c), .bool true, .string (bs more), .int .u16 cut] w fun e w' => e = .returned (.bool true) ∧ Below w.heap.size w w' := by
  have hp := pad_le c.length
  have hI : (⟨t, id, c, padN c.length⟩ : Rec).Is := ⟨by simp only; omega, by simp only; omega, by simp only; omega, by simp only; omega, by simp only; omega, by simp only; omega, by simp only; omega⟩
  have hB := fun w => bytes_yes ⟨t, id, c, padN c.length⟩ w hI
  have hR := fun w => read_any ((⟨t, id, c, padN c.length⟩ : Rec).bytes ++ more) w
  rw [read_back hI more, errV_zero] at hR
  have hlen := bytes_length hI
  simp only at hlen
  have hx1 := Int.emod_lt_of_pos cut (show (0 : Int) < ((⟨t, id, c, padN c.length⟩ : Rec).bytes.length : Int) by omega)
  have hx0 := Int.emod_nonneg cut (show ((⟨t, id, c, padN c.length⟩ : Rec).bytes.length : Int) ≠ 0 by omega)
  have hcut : ((cut % ((⟨t, id, c, padN c.length⟩ : Rec).bytes.length : Int)).toNat : Int) < (⟨t, id, c, padN c.length⟩ : Rec).bytes.length := by
    omega
  have hC := fun w => read_any ((⟨t, id, c, padN c.length⟩ : Rec).bytes.take (cut % ((⟨t, id, c, padN c.length⟩ : Rec).bytes.length : Int)).toNat) w
  rw [read_cut hI _ hcut, errV_num (by show (11 : Int) ≠ 0; decide)] at hC
  have hmod : ((⟨t, id, c, padN c.length⟩ : Rec).bytes.length : Int) % 8 = 0 := by rw [hlen]; exact pad_whole c.length
  have HB := Lib.hid hB
  have HR := Lib.hid hR
  have HC := Lib.hid hC
  have hlo : 8 ≤ (⟨t, id, c, padN c.length⟩ : Rec).bytes.length := by omega
  have hhi : (⟨t, id, c, padN c.length⟩ : Rec).bytes.length ≤ 3000 := by omega
  have hm0 : (((⟨t, id, c, padN c.length⟩ : Rec).bytes.length : Int) % 8 != 0) = false := by simpa using hmod
  have q0 : (t == 0) = false := by simp; omega
  have q1 : decide (2000 < (c.length : Int)) = false := by simp; omega
  have q2 : decide (200 < (more.length : Int)) = false := by simp; omega
  clear hB hR hC hlen hmod hcut
  generalize hs : (⟨t, id, c, padN c.length⟩ : Rec).bytes = s at *
  have HS := Lib.hid hs
  clear hs
  go_enter Try.func6, Try.ntmps6
  go_wp2_with fail
  refine (known2 _).mono ?_
  rintro e w1 ⟨rfl, hb⟩
  have W1 := hb
  have W1z := hb.size
  clear hb
  go_wp2_with fail
  refine (pad_any _ _).mono ?_
  rintro e w2 ⟨rfl, hb⟩
  have r2 := new_alloc hb
  have z2 := box_lt r2
  have c2 := box_cells r2
  have f2 := box_free r2
  have W2 := below_later W1 (below_after hb)
  clear hb W1
  go_wp2_with fail
  have r2' := set_box (i := 3) r2 (.int .i64 (padN c.length))
  have W2' := W2.setCell (p := ⟨w1.heap.size, 3, none⟩) W1z (.int .i64 (padN c.length))
  simp at r2'
  refine (HB.out _).mono ?_
  rintro e w3 ⟨rfl, hb⟩
  have r3 := kept r2' hb
  have W3 := below_later W2' hb
  clear hb r2 r2' W2 W2' z2 c2 f2
  go_wp2_with fail
  refine (HR.out _).mono ?_
  rintro e w4 ⟨rfl, hb⟩
  have r4 := kept r3 hb
  have W4 := below_later W3 hb
  clear hb r3 W3
  go_wp2_with fail
  refine (HC.out _).mono ?_
  rintro e w5 ⟨rfl, hb⟩
  have r5 := kept_alloc r4 hb
  have x5 := new_alloc hb
  have W5 := below_later W4 (below_after hb)
  clear hb r4 W4
  have cr := box_cells r5
  have cx := box_cells x5
  have zr := box_lt r5
  have zx := box_lt x5
  go_wp2_with fail
  refine (is_num 11 11 _).mono ?_
  rintro e w' ⟨rfl, rfl⟩
  go_wp2_with fail
  go_ret
  exact ⟨rfl, W5.alloc W5.size _⟩
set_option maxRecDepth 100000 in
set_option maxHeartbeats 4000000 in
theorem rb_plain (t id cut : Int) (c more : Bs) (w : World) (ht : 0 < t) (ht' : t < 256) (hi : 0 ≤ id) (hi' : id < 65536) (hk : 0 ≤ cut) (hk' : cut < 65536) (hc : c.length ≤ 2000) (hm : more.length ≤ 200) :
    Calls Try.prog 6 #[.int .u8 t, .int .u16 id, .string (bs c), .bool false, .string (bs more), .int .u16 cut] w fun e w' => e = .returned (.bool true) ∧ Below w.heap.size w w' := by
  have hI : (⟨t, id, c, 0⟩ : Rec).Is := ⟨by simp only; omega, by simp only; omega, by simp only; omega, by simp only; omega, by simp only; omega, by simp only; omega, by simp only; omega⟩
  have hB := fun w => bytes_yes ⟨t, id, c, 0⟩ w hI
  have hR := fun w => read_any ((⟨t, id, c, 0⟩ : Rec).bytes ++ more) w
  rw [read_back hI more, errV_zero] at hR
  have hlen := bytes_length hI
  simp only at hlen
  have hx1 := Int.emod_lt_of_pos cut (show (0 : Int) < ((⟨t, id, c, 0⟩ : Rec).bytes.length : Int) by omega)
  have hx0 := Int.emod_nonneg cut (show ((⟨t, id, c, 0⟩ : Rec).bytes.length : Int) ≠ 0 by omega)
  have hcut : ((cut % ((⟨t, id, c, 0⟩ : Rec).bytes.length : Int)).toNat : Int) < (⟨t, id, c, 0⟩ : Rec).bytes.length := by
    omega
  have hC := fun w => read_any ((⟨t, id, c, 0⟩ : Rec).bytes.take (cut % ((⟨t, id, c, 0⟩ : Rec).bytes.length : Int)).toNat) w
  rw [read_cut hI _ hcut, errV_num (by show (11 : Int) ≠ 0; decide)] at hC
  have HB := Lib.hid hB
  have HR := Lib.hid hR
  have HC := Lib.hid hC
  have hlo : 8 ≤ (⟨t, id, c, 0⟩ : Rec).bytes.length := by omega
  have hhi : (⟨t, id, c, 0⟩ : Rec).bytes.length ≤ 3000 := by omega
  have q0 : (t == 0) = false := by simp; omega
  have q1 : decide (2000 < (c.length : Int)) = false := by simp; omega
  have q2 : decide (200 < (more.length : Int)) = false := by simp; omega
  clear hB hR hC hlen hcut
  generalize hs : (⟨t, id, c, 0⟩ : Rec).bytes = s at *
  have HS := Lib.hid hs
  clear hs
  go_enter Try.func6, Try.ntmps6
  go_wp2_with fail
  refine (known2 _).mono ?_
  rintro e w1 ⟨rfl, hb⟩
  have W1 := hb
  have W1z := hb.size
  clear hb
  go_wp2_with fail
  refine (HB.out _).mono ?_
  rintro e w3 ⟨rfl, hb⟩
  have r3 := new_alloc hb
  have W3 := below_later W1 (below_after hb)
  clear hb W1
  go_wp2_with fail
  refine (HR.out _).mono ?_
  rintro e w4 ⟨rfl, hb⟩
  have r4 := kept r3 hb
  have W4 := below_later W3 hb
  clear hb r3 W3
  go_wp2_with fail
  refine (HC.out _).mono ?_
  rintro e w5 ⟨rfl, hb⟩
  have r5 := kept_alloc r4 hb
  have x5 := new_alloc hb
  have W5 := below_later W4 (below_after hb)
  clear hb r4 W4
  have cr := box_cells r5
  have cx := box_cells x5
  have zr := box_lt r5
  have zx := box_lt x5
  go_wp2_with fail
  refine (is_num 11 11 _).mono ?_
  rintro e w' ⟨rfl, rfl⟩
  go_wp2_with fail
  go_ret
  exact ⟨rfl, W5.alloc W5.size _⟩

theorem rb_any (t id cut : Int) (c more : Bs) (pad : Bool) (w : World) (ht : 0 ≤ t) (ht' : t < 256) (hi : 0 ≤ id) (hi' : id < 65536) (hk : 0 ≤ cut) (hk' : cut < 65536) (hc : c.length ≤ 9223372036854775807) (hm : more.length ≤ 9223372036854775807) :
    Calls Try.prog 6 #[.int .u8 t, .int .u16 id, .string (bs c), .bool pad, .string (bs more), .int .u16 cut] w fun e w' => e = .returned (.bool true) ∧ Below w.heap.size w w' := by
  by_cases h : 2000 < c.length ∨ 200 < more.length ∨ t = 0
  · exact rb_early t id cut c more pad w h hc hm
  · cases pad with
    | true => exact rb_pad t id cut c more w (by omega) ht' hi hi' hk hk' (by omega) (by omega)
    | false => exact rb_plain t id cut c more w (by omega) ht' hi hi' hk hk' (by omega) (by omega)

theorem wf_u8 {x : Int} (h : (Lit.int .u8 x).wf = true) : 0 ≤ x ∧ x < 256 := by
  have := bounds_u8 h; omega
theorem wf_u16 {x : Int} (h : (Lit.int .u16 x).wf = true) : 0 ≤ x ∧ x < 65536 := by
  have := bounds_u16 h; omega
theorem size_bs {s : ByteArray} (h : s.size ≤ maxLen) : s.data.toList.length ≤ 9223372036854775807 := by
  unfold maxLen at h
  have : s.data.toList.length = s.size := Array.length_toList
  omega
theorem rb_said (t id cut : Int) (c more : ByteArray) (pad : Bool) (w : World) (wt : (Lit.int .u8 t).wf = true) (wi : (Lit.int .u16 id).wf = true) (wk : (Lit.int .u16 cut).wf = true) (hc : c.size ≤ maxLen) (hm : more.size ≤ maxLen) :
    Calls Try.prog 6 #[.int .u8 t, .int .u16 id, .string c, .bool pad, .string more, .int .u16 cut] w fun e w' => e = .returned (.bool true) ∧ Below w.heap.size w w' := by
  rw [bs_of c, bs_of more]
  exact rb_any t id cut _ _ pad w (wf_u8 wt).1 (wf_u8 wt).2 (wf_u16 wi).1 (wf_u16 wi).2 (wf_u16 wk).1 (wf_u16 wk).2 (size_bs hc) (size_bs hm)
end Go.Proofs.Ytfhddeghmlnobaa
