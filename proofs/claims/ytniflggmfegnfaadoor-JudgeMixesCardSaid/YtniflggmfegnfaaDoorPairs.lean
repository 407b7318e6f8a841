/- What pair.Len, pair.Bytes and the reference's compute: lengths and pairs as bytes. Conditions: a length fits 31 bits; a slice of at most 1000 pairs of at most 100000 bytes each. -/
import Derived.Test.YtniflggmfegnfaaDoorRec
import Derived.Test.YtniflggmfegnfaaDoorApp
import Derived.Test.YtniflggmfegnfaaDoorOpen
import Derived.Test.YtniflggmfegnfaaDoorBits
namespace Go.Proofs.YtniflggmfegnfaaDoor
open Go.RowKit

/-- A length as bytes. -/
def lenB (n : Int) : Bs := if n < 128 then [u8 n] else [u8 (n / 16777216 + 128), u8 (n / 65536), u8 (n / 256), u8 n]

set_option maxRecDepth 100000 in
theorem rlen_short (n : Int) (w : World) (h0 : 0 ≤ n) (h1 : n < 128) :
    Calls Tryd.prog 22 #[.int .i64 n] w fun e w' => e = .returned (.string (bs (lenB n))) ∧ Below w.heap.size w w' := by
  have hcv := fun w' => row_text (Rg.row_bytes w' 5 [u8 n] #[.int .u8 n] (by simp [bv, u8_cast]; omega) (by simp [maxLen]))
  rw [show ([u8 n] : Bs).length = 1 from rfl] at hcv
  have e : lenB n = [u8 n] := if_pos h1
  rw [e]
  rcases (by omega : n = 0 ∨ 0 < n) with rfl | hp
  all_goals
    go_enter Tryd.func22, Tryd.ntmps22
    go_wp2_with fail
    go_ret
    exact ⟨rfl, below_alloc _ _⟩
set_option maxRecDepth 100000 in
theorem rlen_long (n : Int) (w : World) (h0 : 128 ≤ n) (h1 : n ≤ 2147483647) :
    Calls Tryd.prog 22 #[.int .i64 n] w fun e w' => e = .returned (.string (bs (lenB n))) ∧ Below w.heap.size w w' := by
  have hor := or_u8_128 (n / 16777216) (by omega) (by omega)
  have hcv := fun w' => row_text (Rg.row_bytes w' 5 [u8 (n / 16777216 + 128), u8 (n / 65536), u8 (n / 256), u8 n] #[.int .u8 (n / 16777216 + 128), .int .u8 (n / 65536 % 256), .int .u8 (n / 256 % 256), .int .u8 (n % 256)] (by simp [bv, u8_cast]; omega) (by simp [maxLen]))
  rw [show ([u8 (n / 16777216 + 128), u8 (n / 65536), u8 (n / 256), u8 n] : Bs).length = 4 from rfl] at hcv
  have e : lenB n = [u8 (n / 16777216 + 128), u8 (n / 65536), u8 (n / 256), u8 n] := if_neg (by omega)
  rw [e]
  go_enter Tryd.func22, Tryd.ntmps22
  go_wp2_with fail
  go_ret
  exact ⟨rfl, below_alloc _ _⟩
theorem rlen_any (n : Int) (w : World) (h0 : 0 ≤ n) (h1 : n ≤ 2147483647) :
    Calls Tryd.prog 22 #[.int .i64 n] w fun e w' => e = .returned (.string (bs (lenB n))) ∧ Below w.heap.size w w' := by
  by_cases h : n < 128
  · exact rlen_short n w h0 h
  · exact rlen_long n w (by omega) h1

/-! ### pairs -/
def pairCells (p : Bs × Bs) : List Value := [.string (bs p.1), .string (bs p.2)]
def pairB (l : List (Bs × Bs)) : Bs := l.flatMap fun p => lenB p.1.length ++ (lenB p.2.length ++ (p.1 ++ p.2))
theorem lenB_le (n : Int) : (lenB n).length ≤ 4 := by unfold lenB; split <;> simp
theorem pairB_take (l : List (Bs × Bs)) (k : Nat) (h : k < l.length) : pairB (l.take (k + 1)) = pairB (l.take k) ++ (lenB l[k].1.length ++ (lenB l[k].2.length ++ (l[k].1 ++ l[k].2))) := by
  unfold pairB
  rw [List.take_succ_eq_append_getElem h, List.flatMap_append]
  simp
theorem pairB_le (n : Nat) : ∀ (l : List (Bs × Bs)), (∀ p ∈ l, p.1.length ≤ n ∧ p.2.length ≤ n) → (pairB l).length ≤ (2 * n + 8) * l.length
  | [], _ => by simp [pairB]
  | p :: l, h => by
    have h1 := h p (by simp)
    have h2 := pairB_le n l (fun q hq => h q (by simp [hq]))
    have a := lenB_le p.1.length
    have b := lenB_le p.2.length
    have e : pairB (p :: l) = (lenB p.1.length ++ (lenB p.2.length ++ (p.1 ++ p.2))) ++ pairB l := by simp [pairB]
    rw [e, List.length_append, List.length_cons, Nat.mul_add]
    simp only [List.length_append]
    omega

end Go.Proofs.YtniflggmfegnfaaDoor
