/- conduitlaw5.CutterLimits answers true at all arguments, where the package errors' variable holds what it was given. Condition: that. -/
import Derived.Test.YtfhddeghmlnobaaDoorKnown5
namespace Go.Proofs.YtfhddeghmlnobaaDoor
open Go.RowKit

theorem six_head (r : Rec) (h : r.Is) : r.bytes.take 6 = [1, u8 r.t, u8 (r.id / 256), u8 r.id, u8 ((r.c.length : Int) / 256), u8 r.c.length] := by
  have e := bytes_head h []
  rw [List.append_nil] at e
  rw [e]
  rfl
theorem six_len (r : Rec) (h : r.Is) : at0 (r.bytes.take 6) 0 = 1 ∧ at0 (r.bytes.take 6) 4 * 256 + at0 (r.bytes.take 6) 5 = r.c.length ∧ (r.bytes.take 6).length = 6 := by
  obtain ⟨_, _, _, _, hc, _, _⟩ := id h
  rw [six_head r h]
  refine ⟨rfl, ?_, rfl⟩
  show ((u8 ((r.c.length : Int) / 256)).toNat : Int) * 256 + ((u8 (r.c.length : Int)).toNat : Int) = _
  rw [u8_cast, u8_cast]
  omega
theorem cutRun_nil (most : Int) : cutRun most [] = ([], 0, [], false) := cutRun_lacks (by rw [cutNext_def, if_neg (fun h => by have := h.1; simp at this), recRead_short (.inl rfl) (by simp)])
theorem lim_more (k : Nat) (r : Rec) (h : r.Is) (hk : r.c.length = k + 1) : cutFeed k false [] (r.bytes.take 6) = ([], 12, [], true) := by
  obtain ⟨h0, h1, h2⟩ := six_len r h
  have hl : Large (k : Int) (r.bytes.take 6) := ⟨by omega, h0, by rw [h1]; omega⟩
  have e : cutNext (k : Int) (r.bytes.take 6) = (Rec.zero, r.bytes.take 6, 12) := by rw [cutNext_def, if_pos hl]
  show cutRun k ([] ++ r.bytes.take 6) = _
  rw [List.nil_append, cutRun_bad (by rw [e]; simp) (by rw [e]; simp), e]
theorem lim_less (k : Nat) (r : Rec) (h : r.Is) (hk : r.c.length = k) : cutFeed k false [] (r.bytes.take 6) = ([], 0, r.bytes.take 6, false) := by
  obtain ⟨h0, h1, h2⟩ := six_len r h
  have e : cutNext (k : Int) (r.bytes.take 6) = (Rec.zero, r.bytes.take 6, 11) := by rw [cutNext_def, if_neg (fun hl => by have := hl.2.2; rw [h1] at this; omega), recRead_short (.inr h0) (by omega)]
  show cutRun k ([] ++ r.bytes.take 6) = _
  rw [List.nil_append, cutRun_lacks (by rw [e])]
theorem lim_rest (k : Nat) (r : Rec) (h : r.Is) (hk : r.c.length = k) : cutFeed k false (r.bytes.take 6) (r.bytes.drop 6) = ([r], 0, [], false) := by
  show cutRun k (r.bytes.take 6 ++ r.bytes.drop 6) = _
  rw [List.take_append_drop]
  have := cutRun_recs k [r] [] (by intro q hq; simp at hq; subst hq; exact ⟨h, by omega⟩)
  rw [cutRun_nil] at this
  simpa [allBytes, glueC] using this

set_option maxRecDepth 100000 in
set_option maxHeartbeats 8000000 in
theorem cl_any (n : Int) (more : Bool) (w : World) (hn0 : 0 ≤ n) (hn1 : n < 65536) (hg : w.cell? ⟨0, 0, none⟩ = some errTypeV) :
    Calls Tryd.prog 10 #[.int .u16 n, .bool more] w fun e w' => e = .returned (.bool true) ∧ Below w.heap.size w w' := by
  have hgl := World.block_lt_of_cell? w _ hg
  simp only at hgl
  have hg' : ∀ w', Below w.heap.size w w' → w'.cell? ⟨0, 0, none⟩ = some errTypeV := fun w' hb => by rw [hb.cell (World.block_lt_of_cell? w _ hg)]; exact hg
  have HG := Lib.hid hg'
  clear hg hg'
  obtain ⟨k, hk, hk1⟩ : ∃ k : Nat, n % 1000 = (k : Int) ∧ k < 1000 := ⟨(n % 1000).toNat, by omega, by omega⟩
  cases more
  · -- no more than may be
    have hmk : ∀ w, (Instr.makeSlice 36 (.int .i64 (k : Int)) (.int .i64 (k : Int))).run Tryd.prog w = .ok (.slice (some ⟨w.heap.size, 0, none⟩) k k) (w.alloc (.cells (madeCells #[.int .u8 0] k) 5)) := fun w => by
      have := make_bytes w (k : Int) (by omega) (by omega)
      rwa [Int.toNat_natCast] at this
    have htx := fun w => text_made w k (by unfold maxLen; omega)
    have hIs : (⟨6, 1, List.replicate k 0, 0⟩ : Rec).Is := ⟨by simp, by simp, by simp, by simp, by simp; omega, by simp, by simp⟩
    have hlen : (⟨6, 1, List.replicate k 0, 0⟩ : Rec).bytes.length = 8 + k := by
      have := bytes_length hIs
      simp at this
      omega
    have hBy := fun w => rbytes_any ⟨6, 1, List.replicate k 0, 0⟩ w (by simp; omega)
    have f1 := lim_less k ⟨6, 1, List.replicate k 0, 0⟩ hIs (by simp)
    have f2 := lim_rest k ⟨6, 1, List.replicate k 0, 0⟩ hIs (by simp)
    have hrl : (List.replicate k (0 : UInt8)).length = k := List.length_replicate
    generalize (⟨6, 1, List.replicate k 0, 0⟩ : Rec).bytes = S at *
    have hS6 : (S.take 6).length = 6 := by rw [List.length_take]; omega
    have hS6' : (S.drop 6).length = 2 + k := by rw [List.length_drop]; omega
    have hA := fun b w hb hg hne => cfeed_any b [] (S.take 6) k false w hb hg hne (by simp only [List.length_nil]; omega)
    have hB := fun b w hb hg hne => cfeed_any b (S.take 6) (S.drop 6) k false w hb hg hne (by omega)
    rw [f1] at hA
    rw [f2] at hB
    simp only [errV_zero] at hA hB
    have HBy := Lib.hid hBy
    have HA := Lib.hid hA
    have HB := Lib.hid hB
    have hl6 : 6 ≤ S.length := by omega
    have hl9 : S.length ≤ 2000 := by omega
    clear hBy hA hB f1 f2 hS6 hS6' hIs hlen
    go_enter Tryd.func10, Tryd.ntmps10
    go_wp2_with fail
    refine (known5 _ (HG.out _ (Below.refl _ _))).mono ?_
    rintro e w1 ⟨rfl, W1⟩
    go_wp2_with fail
    refine (cnew_any k _).mono ?_
    rintro e w2 ⟨rfl, hw2⟩
    have b1 : w2.heap[w1.heap.size]? = some (cutObj [] k false) := by rw [hw2]; exact heap_alloc_new w1 _
    have W2 : Below w.heap.size w w2 := by rw [hw2]; exact below_later W1 (below_alloc _ _)
    have hB1 := W1.size
    clear hw2 W1
    generalize w1.heap.size = B1 at *
    have htx2 := htx w2
    go_wp2_with fail
    clear htx htx2 hmk
    refine (HBy.out _).mono ?_
    rintro e w3 ⟨rfl, hb⟩
    replace b1 := kept_alloc b1 hb
    have W3 := below_later W2 (below_after hb)
    clear hb W2
    go_wp2_with fail
    refine (HA.out _ _ b1 (HG.out _ W3) (by omega)).mono ?_
    rintro e w4 ⟨v4, rfl, o4, b4, hon⟩
    have W4 : Below w.heap.size w w4 := W3.trans (only_base hon hB1 W3.size)
    obtain ⟨a4, cap4, rfl⟩ := own_slice o4
    simp only [List.length_nil]
    clear hon W3 b1 o4
    go_wp2_with fail
    refine (HB.out _ _ b4 (HG.out _ W4) (by omega)).mono ?_
    rintro e w5 ⟨v5, rfl, o5, b5, hon⟩
    have W5 : Below w.heap.size w w5 := W4.trans (only_base hon hB1 W4.size)
    obtain ⟨g, cap5, rfl, _, hz, hc⟩ := own_open o5 (by simp)
    have c2 : w5.cell? ⟨g, 2, none⟩ = some (.string (bs (List.replicate k 0))) := hc 2 _ rfl
    simp only [List.length_cons, List.length_nil]
    clear hon W4 b4 o5 hc
    go_wp2_with fail
    refine (cwaits_any _ _ _ _ _ b5).mono ?_
    rintro e w6 ⟨rfl, rfl⟩
    go_wp2_with fail
    go_ret
    exact ⟨rfl, W5⟩
  · -- one byte more
    have hk1' : ((k : Int) + 1).toNat = k + 1 := by omega
    have hmk : ∀ w, (Instr.makeSlice 36 (.int .i64 ((k : Int) + 1)) (.int .i64 ((k : Int) + 1))).run Tryd.prog w = .ok (.slice (some ⟨w.heap.size, 0, none⟩) (k + 1) (k + 1)) (w.alloc (.cells (madeCells #[.int .u8 0] (k + 1)) 5)) := fun w => by
      have := make_bytes w ((k : Int) + 1) (by omega) (by omega)
      rwa [hk1'] at this
    have htx := fun w => text_made w (k + 1) (by unfold maxLen; omega)
    have hIs : (⟨6, 1, List.replicate (k + 1) 0, 0⟩ : Rec).Is := ⟨by simp, by simp, by simp, by simp, by simp; omega, by simp, by simp⟩
    have hlen : (⟨6, 1, List.replicate (k + 1) 0, 0⟩ : Rec).bytes.length = 9 + k := by
      have := bytes_length hIs
      simp at this
      omega
    have hBy := fun w => rbytes_any ⟨6, 1, List.replicate (k + 1) 0, 0⟩ w (by simp; omega)
    have f1 := lim_more k ⟨6, 1, List.replicate (k + 1) 0, 0⟩ hIs (by simp)
    have hrl : (List.replicate (k + 1) (0 : UInt8)).length = k + 1 := List.length_replicate
    generalize (⟨6, 1, List.replicate (k + 1) 0, 0⟩ : Rec).bytes = S at *
    have hS6 : (S.take 6).length = 6 := by rw [List.length_take]; omega
    have hA := fun b w hb hg hne => cfeed_any b [] (S.take 6) k false w hb hg hne (by simp only [List.length_nil]; omega)
    rw [f1] at hA
    simp only at hA
    rw [errV_num (by decide)] at hA
    have HBy := Lib.hid hBy
    have HA := Lib.hid hA
    clear hBy hA f1 hS6 hIs hk1'
    go_enter Tryd.func10, Tryd.ntmps10
    go_wp2_with fail
    refine (known5 _ (HG.out _ (Below.refl _ _))).mono ?_
    rintro e w1 ⟨rfl, W1⟩
    go_wp2_with fail
    refine (cnew_any k _).mono ?_
    rintro e w2 ⟨rfl, hw2⟩
    have b1 : w2.heap[w1.heap.size]? = some (cutObj [] k false) := by rw [hw2]; exact heap_alloc_new w1 _
    have W2 : Below w.heap.size w w2 := by rw [hw2]; exact below_later W1 (below_alloc _ _)
    have hB1 := W1.size
    clear hw2 W1
    generalize w1.heap.size = B1 at *
    have htx2 := htx w2
    go_wp2_with fail
    clear htx htx2 hmk
    refine (HBy.out _).mono ?_
    rintro e w3 ⟨rfl, hb⟩
    replace b1 := kept_alloc b1 hb
    have W3 := below_later W2 (below_after hb)
    clear hb W2
    go_wp2_with fail
    refine (HA.out _ _ b1 (HG.out _ W3) (by omega)).mono ?_
    rintro e w4 ⟨v4, rfl, o4, b4, hon⟩
    have W4 : Below w.heap.size w w4 := W3.trans (only_base hon hB1 W3.size)
    obtain ⟨a4, cap4, rfl⟩ := own_slice o4
    simp only [List.length_nil]
    clear hon W3 b1 o4
    go_wp2_with fail
    refine (is_num 12 12 _).mono ?_
    rintro e w5 ⟨rfl, rfl⟩
    go_wp2_with fail
    go_ret
    exact ⟨rfl, W4⟩
theorem cl_said (n : Int) (more : Bool) (w : World) (hn : 0 ≤ n ∧ n < 65536) (hg : w.cell? ⟨0, 0, none⟩ = some errTypeV) :
    Calls Tryd.prog 10 #[.int .u16 n, .bool more] w fun e w' => e = .returned (.bool true) ∧ Below w.heap.size w w' := cl_any n more w hn.1 hn.2 hg
end Go.Proofs.YtfhddeghmlnobaaDoor
