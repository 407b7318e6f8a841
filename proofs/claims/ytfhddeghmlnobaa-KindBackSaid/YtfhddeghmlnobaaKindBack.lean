/- conduitlaw4.KindBack answers true at every arguments. No condition. -/
import Derived.Test.YtfhddeghmlnobaaKnown4
namespace Go.Proofs.Ytfhddeghmlnobaa
open Go.RowKit

theorem end_back (i a p : Int) (h0 : 0 ≤ a) (h1 : a < 4294967296) (hp : 0 ≤ p) (hp' : p < 256) : endN (endR i a p).c = a ∧ at0 (endR i a p).c 4 = p ∧ (endR i a p).c.length = 8 := by
  refine ⟨?_, ?_, by simp [endR, eightR]⟩
  · simp [endN, endR, eightR, at0, u8_cast]
    omega
  · simp [endR, eightR, at0, u8_cast]
    omega

set_option maxRecDepth 100000 in
set_option maxHeartbeats 4000000 in
theorem kb_any (i a p f : Int) (keep : Bool) (w : World) (hi : 0 ≤ i) (hi' : i < 65536) (ha : 0 ≤ a) (ha' : a < 4294967296) (hp : 0 ≤ p) (hp' : p < 256) (hf : 0 ≤ f) (hf' : f < 256) :
    Calls Try.prog 10 #[.int .u16 i, .bool keep, .int .u32 a, .int .u8 p, .int .u8 f] w fun e w' => e = .returned (.bool true) ∧ Below w.heap.size w w' := by
  obtain ⟨g1, g2, g3⟩ := end_back i a p ha ha' hp hp'
  have hB := fun w => begin_any i keep w
  have hB' := fun w => begin_any i false w
  have hR := fun w => rb_ok i 0 (beginR i keep).c w (by simp [beginR, eightR])
  rw [show beginN (beginR i keep).c = 1 from rfl, show (at0 (beginR i keep).c 2 % 2 == 1) = keep from by cases keep <;> rfl] at hR
  have hE := fun w => end_any i a p w ha ha'
  have hD := fun w => re_ok i 0 (endR i a p).c w g3
  rw [g1, g2] at hD
  have hF := fun w => rb_ok i 0 ([0, 1, 0, 0, 0, 0, 0, 0].set 2 (u8 f)) w (by simp)
  rw [show beginN ([0, 1, 0, 0, 0, 0, 0, 0].set 2 (u8 f)) = 1 from rfl, show (at0 ([0, 1, 0, 0, 0, 0, 0, 0].set 2 (u8 f)) 2 % 2 == 1) = (f % 2 == 1) from by simp [at0, u8_cast]] at hF
  have eB : (beginR i keep).v = .agg #[.int .i64 1, .int .i64 i, .string (bs (beginR i keep).c), .int .i64 0] := rfl
  have eE : (endR i a p).v = .agg #[.int .i64 3, .int .i64 i, .string (bs (endR i a p).c), .int .i64 0] := rfl
  have eB' : (beginR i false).v = .agg #[.int .i64 1, .int .i64 i, .string (bs [0, 1, 0, 0, 0, 0, 0, 0]), .int .i64 0] := rfl
  rw [eB] at hB
  rw [eB'] at hB'
  rw [eE] at hE
  generalize (beginR i keep).c = cb at *
  generalize (endR i a p).c = ce at *
  have HB := Lib.hid hB
  have HB' := Lib.hid hB'
  have HR := Lib.hid hR
  have HE := Lib.hid hE
  have HD := Lib.hid hD
  have HF := Lib.hid hF
  clear hB hB' hR hE hD hF eB eE eB' g1 g2 g3
  go_enter Try.func10, Try.ntmps10
  go_wp2_with fail
  refine (known4 _).mono ?_
  rintro e w1 ⟨rfl, W1⟩
  go_wp2_with fail
  refine (HB.out _).mono ?_
  rintro e w2 ⟨rfl, hb⟩
  have W2 := below_later W1 hb
  clear hb W1
  go_wp2_with fail
  refine (HR.out _).mono ?_
  rintro e w3 ⟨rfl, hb⟩
  have W3 := below_later W2 hb
  clear hb W2
  go_wp2_with fail
  refine (HE.out _).mono ?_
  rintro e w4 ⟨rfl, hb⟩
  have W4 := below_later W3 hb
  clear hb W3
  go_wp2_with fail
  refine (HD.out _).mono ?_
  rintro e w5 ⟨rfl, hb⟩
  have W5 := below_later W4 hb
  clear hb W4
  go_wp2_with fail
  refine (HB'.out _).mono ?_
  rintro e w6 ⟨rfl, hb⟩
  have x6 := new_alloc hb
  have W6 := below_later W5 (below_after hb)
  clear hb W5
  have wz := box_lt x6
  obtain ⟨wA, hA⟩ : ∃ wA, wA = w6.alloc (.cells #[.int .i64 1, .int .i64 i, .string (bs [0, 1, 0, 0, 0, 0, 0, 0]), .int .i64 0] 31) := ⟨_, rfl⟩
  have rA : wA.heap[w6.heap.size]? = some (.cells #[.int .i64 1, .int .i64 i, .string (bs [0, 1, 0, 0, 0, 0, 0, 0]), .int .i64 0] 31) := by rw [hA]; exact heap_alloc_new w6 _
  have xA : wA.heap[w5.heap.size]? = some (.cells #[.int .u32 a, .int .i64 p] 59) := by rw [hA, heap_alloc_old w6 _ wz]; exact x6
  have WZ := W6.size
  have WA : Below w.heap.size w wA := by rw [hA]; exact W6.alloc W6.size _
  have zA : wA.heap.size = w6.heap.size + 1 := by rw [hA]; simp
  obtain ⟨wC, cap, C, n, hrun, x3, hn, hsn, htk, hb, hcap⟩ := to_bytes [0, 1, 0, 0, 0, 0, 0, 0] wA
  rw [show ([0, 1, 0, 0, 0, 0, 0, 0] : Bs).length = 8 from rfl] at hrun hsn hcap
  have rC := kept rA hb
  have xC := kept xA hb
  have WC := below_later WA hb
  have c2 : wC.cell? ⟨wA.heap.size, 2, none⟩ = some (C[2]'(by omega)) := by rw [box_cells x3 2, Array.getElem?_eq_getElem (by omega)]
  have f2 := free_mark x3 2 (by omega)
  have y3 := set_box (i := 2) x3 (.int .u8 f)
  have hcv := from_bytes ([0, 1, 0, 0, 0, 0, 0, 0].set 2 (u8 f)) _ wA.heap.size cap _ _ y3 (by
    have e : ∀ (D : Array Value) (i k : Nat) (v : Value), (D.setIfInBounds i v).toList.take k = (D.toList.take k).set i v := by
      intro D i k v
      rw [Array.toList_setIfInBounds, List.take_set]
    rw [List.length_set, e]
    simp only [List.length_cons, List.length_nil] at htk ⊢
    rw [htk, List.map_set, bv_lit f hf hf'])
  rw [show ([0, 1, 0, 0, 0, 0, 0, 0].set 2 (u8 f)).length = 8 from rfl] at hcv
  have rD := set_other (i := 2) rC (show w6.heap.size ≠ wA.heap.size by omega) (.int .u8 f)
  have xD := set_other (i := 2) xC (show w5.heap.size ≠ wA.heap.size by omega) (.int .u8 f)
  have WD := WC.setCell (p := ⟨wA.heap.size, 2, none⟩) WA.size (.int .u8 f)
  have zx : wA.heap.size < wC.heap.size := box_lt x3
  clear hb y3 htk rC xC W6 WA rA xA WC x6
  rw [zA] at hrun c2 f2 hcv rD xD WD zx
  have cr := box_cells rD
  have fr := box_free rD
  have zr := box_lt rD
  have c3 := set_box (i := 2) rD (.string (bs ([0, 1, 0, 0, 0, 0, 0, 0].set 2 (u8 f))))
  have x4 := set_other (i := 2) xD (Nat.ne_of_lt wz) (.string (bs ([0, 1, 0, 0, 0, 0, 0, 0].set 2 (u8 f))))
  have W7 := WD.setCell (p := ⟨w6.heap.size, 2, none⟩) WZ (.string (bs ([0, 1, 0, 0, 0, 0, 0, 0].set 2 (u8 f))))
  clear x3
  subst hA
  go_wp2_with fail
  refine (HF.out _).mono ?_
  rintro e w7 ⟨rfl, hb⟩
  have x7 := kept x4 hb
  have W8 := below_later W7 hb
  have c7 := box_cells x7
  have z7 := box_lt x7
  clear hb x4 W7 WD rD xD cr fr zr c3 c2 f2 hrun hcv zx zA WZ
  have k1 : (keep == keep) = true := by simp
  have k2 : ((f % 2 == 1) == (f % 2 == 1)) = true := by simp
  go_wp2_with fail
  all_goals
    go_ret
    exact ⟨ret_bool (by simp), W8⟩

theorem kb_said (i a p f : Int) (keep : Bool) (w : World) (wi : (Lit.int .u16 i).wf = true) (wa : (Lit.int .u32 a).wf = true) (wp : (Lit.int .u8 p).wf = true) (wf : (Lit.int .u8 f).wf = true) :
    Calls Try.prog 10 #[.int .u16 i, .bool keep, .int .u32 a, .int .u8 p, .int .u8 f] w fun e w' => e = .returned (.bool true) ∧ Below w.heap.size w w' := by
  have ha := bounds_u32 wa
  exact kb_any i a p f keep w (wf_u16 wi).1 (wf_u16 wi).2 (by omega) (by omega) (wf_u8 wp).1 (wf_u8 wp).2 (wf_u8 wf).1 (wf_u8 wf).2
end Go.Proofs.Ytfhddeghmlnobaa
