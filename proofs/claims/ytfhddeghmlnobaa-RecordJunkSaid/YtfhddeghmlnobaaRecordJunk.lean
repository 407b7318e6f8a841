/- conduitlaw2.RecordJunk answers true: whatever the eighth byte and the last of the padding are. No condition. -/
import Derived.Test.YtfhddeghmlnobaaKnown2
import Derived.Test.YtfhddeghmlnobaaAid
namespace Go.Proofs.Ytfhddeghmlnobaa
open Go.RowKit

/-- The bytes with the eighth one and the last one turned are read as they were. -/
theorem junk_read {c : Bs} {pad : Int} (hc : c.length ≤ 200) (h0 : 1 ≤ pad) (h1 : pad ≤ 255) (a b : UInt8) :
    recRead (((⟨5, 3, c, pad⟩ : Rec).bytes.set 7 a).set ((⟨5, 3, c, pad⟩ : Rec).bytes.length - 1) b) = (⟨5, 3, c, pad⟩, [], 0) := by
  have hI : (⟨5, 3, c, pad⟩ : Rec).Is := by unfold Rec.Is; simp only; omega
  have hb := bytes_head hI []
  rw [List.append_nil, List.append_nil] at hb
  have hlen := bytes_length hI
  simp only at hlen hb
  have e1 : (⟨5, 3, c, pad⟩ : Rec).bytes.length - 1 = (c.length + (pad.toNat - 1)) + 8 := by omega
  rw [e1, hb]
  simp only [List.set_cons_succ, List.set_cons_zero]
  have e2 : (c ++ List.replicate pad.toNat 0).set (c.length + (pad.toNat - 1)) b = c ++ (List.replicate pad.toNat 0).set (pad.toNat - 1) b := by
    rw [List.set_append_right _ _ (by omega)]
    congr 2
    omega
  rw [e2]
  have := read_head hI a (c ++ (List.replicate pad.toNat 0).set (pad.toNat - 1) b) (by simp) (by simp)
  rw [this]
  simp

theorem rj_early (c : Bs) (pad a b : Int) (w : World) (hc : c.length ≤ 9223372036854775807) (h : 200 < c.length ∨ pad = 0) :
    Calls Try.prog 9 #[.string (bs c), .int .u8 pad, .int .u8 a, .int .u8 b] w fun e w' => e = .returned (.bool true) ∧ Below w.heap.size w w' := by
  by_cases h1 : 200 < c.length
  · clear h
    go_enter Try.func9, Try.ntmps9
    go_wp2_with (go_at_call 24; refine (known2 _).mono ?_; rintro e w1 ⟨rfl, hb⟩)
    go_ret
    exact ⟨rfl, hb⟩
  · obtain rfl : pad = 0 := h.resolve_left h1
    clear h
    go_enter Try.func9, Try.ntmps9
    go_wp2_with (go_at_call 24; refine (known2 _).mono ?_; rintro e w1 ⟨rfl, hb⟩)
    go_ret
    exact ⟨rfl, hb⟩

set_option maxRecDepth 100000 in
set_option maxHeartbeats 4000000 in
theorem rj_main (c : Bs) (pad : Int) (a b : UInt8) (w : World) (hc : c.length ≤ 200) (h0 : 1 ≤ pad) (h1 : pad ≤ 255) :
    Calls Try.prog 9 #[.string (bs c), .int .u8 pad, .int .u8 (a.toNat : Int), .int .u8 (b.toNat : Int)] w fun e w' => e = .returned (.bool true) ∧ Below w.heap.size w w' := by
  have hI : (⟨5, 3, c, pad⟩ : Rec).Is := by unfold Rec.Is; simp only; omega
  have hB := fun w => bytes_yes ⟨5, 3, c, pad⟩ w hI
  have hR := fun w => read_any (((⟨5, 3, c, pad⟩ : Rec).bytes.set 7 a).set ((⟨5, 3, c, pad⟩ : Rec).bytes.length - 1) b) w
  rw [junk_read hc h0 h1 a b, errV_zero] at hR
  have hlen := bytes_length hI
  simp only at hlen
  have l0 : 9 ≤ (⟨5, 3, c, pad⟩ : Rec).bytes.length := by omega
  have l1 : (⟨5, 3, c, pad⟩ : Rec).bytes.length ≤ 500 := by omega
  have q0 : (pad == 0) = false := by simp; omega
  have q1 : decide (200 < (c.length : Int)) = false := by simp; omega
  have q2 : (((⟨5, 3, c, pad⟩ : Rec).bytes.length : Int) != 8 + c.length + pad) = false := by simp; omega
  generalize hs : (⟨5, 3, c, pad⟩ : Rec).bytes = s at *
  have HB := Lib.hid hB
  have HR := Lib.hid hR
  clear hB hR hI hs hlen
  go_enter Try.func9, Try.ntmps9
  go_wp2_with fail
  refine (known2 _).mono ?_
  rintro e w1 ⟨rfl, W1⟩
  go_wp2_with fail
  refine (HB.out _).mono ?_
  rintro e w2 ⟨rfl, hb⟩
  have r2 := new_alloc hb
  have W2 := below_later W1 (below_after hb)
  clear hb W1
  obtain ⟨w3, cap, C, n, hrun, x3, hn, hsn, htk, hb, hcap⟩ := to_bytes s w2
  have r3 := kept r2 hb
  have W3 := below_later W2 hb
  have zx := box_lt x3
  have c7 : w3.cell? ⟨w2.heap.size, 7, none⟩ = some (C[7]'(by omega)) := by rw [box_cells x3 7, Array.getElem?_eq_getElem (by omega)]
  have cl : w3.cell? ⟨w2.heap.size, s.length - 1, none⟩ = some (C[s.length - 1]'(by omega)) := by rw [box_cells x3, Array.getElem?_eq_getElem (by omega)]
  have f7 := free_mark x3 7 (by omega)
  have fl := free_mark x3 (s.length - 1) (by omega)
  have y3 := set_box (i := s.length - 1) (set_box (i := 7) x3 (.int .u8 (a.toNat : Int))) (.int .u8 (b.toNat : Int))
  have hcv := from_bytes ((s.set 7 a).set (s.length - 1) b) _ w2.heap.size cap _ _ y3 (by
    have e : ∀ (D : Array Value) (i k : Nat) (v : Value), (D.setIfInBounds i v).toList.take k = (D.toList.take k).set i v := by
      intro D i k v
      rw [Array.toList_setIfInBounds, List.take_set]
    simp only [List.length_set, e, htk, List.map_set]
    rfl)
  simp only [List.length_set] at hcv
  have W3' := (W3.setCell (p := ⟨w2.heap.size, 7, none⟩) W2.size (.int .u8 (a.toNat : Int))).setCell (p := ⟨w2.heap.size, s.length - 1, none⟩) W2.size (.int .u8 (b.toNat : Int))
  have z12 := box_lt r2
  have r3' := set_other (i := s.length - 1) (set_other (i := 7) r3 (Nat.ne_of_lt z12) (.int .u8 (a.toNat : Int))) (Nat.ne_of_lt z12) (.int .u8 (b.toNat : Int))
  clear hb r2 W2 W3 r3 y3 htk
  go_wp2_with fail
  refine (HR.out _).mono ?_
  rintro e w4 ⟨rfl, hb⟩
  have r4 := kept r3' hb
  have W4 := below_later W3' hb
  clear hb r3' W3'
  have cr := box_cells r4
  have zr := box_lt r4
  go_wp2_with fail
  go_ret
  exact ⟨rfl, below_later W4 (below_alloc _ _)⟩

theorem rj_said (c : ByteArray) (pad a b : Int) (w : World) (hc : c.size ≤ maxLen) (wp : (Lit.int .u8 pad).wf = true) (wa : (Lit.int .u8 a).wf = true) (wb : (Lit.int .u8 b).wf = true) :
    Calls Try.prog 9 #[.string c, .int .u8 pad, .int .u8 a, .int .u8 b] w fun e w' => e = .returned (.bool true) ∧ Below w.heap.size w w' := by
  obtain ⟨h0, h1⟩ := wf_u8 wp
  have ha := wf_u8 wa
  have hb := wf_u8 wb
  rw [bs_of c]
  generalize hl : c.data.toList = l
  have hlen : l.length ≤ 9223372036854775807 := by rw [← hl]; exact size_bs hc
  by_cases h : 200 < l.length ∨ pad = 0
  · exact rj_early l pad a b w hlen h
  · have ea : a = ((u8 a).toNat : Int) := by rw [u8_cast]; omega
    have eb : b = ((u8 b).toNat : Int) := by rw [u8_cast]; omega
    rw [ea, eb]
    exact rj_main l pad (u8 a) (u8 b) w (by omega) (by omega) (by omega)
end Go.Proofs.Ytfhddeghmlnobaa
