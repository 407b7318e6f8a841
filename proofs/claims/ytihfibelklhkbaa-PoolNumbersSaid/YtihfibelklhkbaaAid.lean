/- Small laws on worlds behind calls, used by the laws' walks. No condition. -/
import Derived.Test.YtihfibelklhkbaaBase
import Derived.OpenShut
namespace Go.Proofs.Ytihfibelklhkbaa
open Go.RowKit
theorem new_alloc2 {w w1 : World} {a b : Obj} (hb : Below ((w.alloc a).alloc b).heap.size ((w.alloc a).alloc b) w1) : w1.heap[w.heap.size + 1]? = some b := by
  have := new_alloc hb
  simpa using this
theorem kept_alloc2 {w w1 : World} {i : Nat} {o a b : Obj} (h : w.heap[i]? = some o) (hb : Below ((w.alloc a).alloc b).heap.size ((w.alloc a).alloc b) w1) : w1.heap[i]? = some o :=
  kept_alloc (w := w.alloc a) (by rw [heap_alloc_old w a (Array.getElem?_eq_some_iff.1 h).1]; exact h) hb
theorem wf_u8 {x : Int} (h : (Lit.int .u8 x).wf = true) : 0 ≤ x ∧ x < 256 := by
  have := bounds_u8 h; omega
theorem wf_u16 {x : Int} (h : (Lit.int .u16 x).wf = true) : 0 ≤ x ∧ x < 65536 := by
  have := bounds_u16 h; omega
theorem size_bs {s : ByteArray} (h : s.size ≤ maxLen) : s.data.toList.length ≤ 9223372036854775807 := by
  unfold maxLen at h
  have : s.data.toList.length = s.size := Array.length_toList
  omega
/-- '[]byte(s)': a new row whose first cells are the bytes. -/
theorem to_bytes (l : Bs) (w : World) : ∃ w3 cap C n, (convert 9 34 (.string (bs l))).run Try.prog w = .ok (.slice (some ⟨w.heap.size, 0, none⟩) l.length cap) w3 ∧
    w3.heap[w.heap.size]? = some (.cells C 5 (n, n + 1)) ∧ C.size = n ∧ l.length ≤ n ∧ C.toList.take l.length = l.map bv ∧ Below w.heap.size w w3 ∧ l.length ≤ cap := by
  have h := run_bytes_of_string (P := Try.prog) w 9 34 5 (bs l) Try.underlying9 Try.underlying34 Try.underlying5
  rw [bs_size] at h
  have hg := grownCap_ge w l.length 0 5
  refine ⟨_, _, _, _, h, heap_alloc_new w.drew _, rfl, ?_, ?_, ?_, hg⟩
  · simp [bytesRow, bs_size, bs_data]
  · have : (bytesRow (bs l) (grownCap w l.length 0 5)).toList = l.map bv ++ List.replicate (grownCap w l.length 0 5 - l.length) (.int .u8 0) := by
      simp only [bytesRow, bs_size, bs_data, Array.toList_append, Array.toList_map, Array.toList_replicate]
      rfl
    rw [this, List.take_append_of_le_length (by simp), List.take_of_length_le (by simp)]
  · exact (Below.refl _ _).drew.alloc (Nat.le_refl _) _
theorem free_mark {w : World} {b n : Nat} {cs : Array Value} {e : TypeId} (h : w.heap[b]? = some (.cells cs e (n, n + 1))) (j : Nat) (hj : j < n) : w.frozen? ⟨b, j, none⟩ = false := by
  simp [World.frozen?, h]; omega
/-- 'string(b)', b's cells the bytes l. -/
theorem from_bytes (l : Bs) (w : World) (g cap : Nat) (C : Array Value) (fr : Nat × Nat) (h : w.heap[g]? = some (.cells C 5 fr)) (hc : C.toList.take l.length = l.map bv) :
    (convert 34 9 (.slice (some ⟨g, 0, none⟩) l.length cap)).run Try.prog w = .ok (.string (bs l)) w := by
  refine run_convert_bytes_back w 34 9 5 ⟨g, 0, none⟩ cap l Try.underlying34 Try.underlying5 Try.underlying9 ?_
  intro j hj
  have ha : (⟨g, 0, none⟩ : Addr).add j = ⟨g, j, none⟩ := by unfold Addr.add; split <;> simp_all
  rw [ha, box_cells h j]
  have := congrArg (fun x => x[j]?) hc
  simp only [List.getElem?_take, hj, if_true, List.getElem?_map, List.getElem?_eq_getElem hj, Option.map_some] at this
  simpa [bv] using this
end Go.Proofs.Ytihfibelklhkbaa
