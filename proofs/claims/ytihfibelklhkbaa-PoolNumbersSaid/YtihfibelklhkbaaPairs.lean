/- What pair.Len, pair.Bytes and the reference's compute: lengths and pairs as bytes. Conditions: a length fits 31 bits; a slice of at most 1000 pairs of at most 100000 bytes each. -/
import Derived.Test.YtihfibelklhkbaaRec
import Derived.Test.YtihfibelklhkbaaApp
import Derived.Test.YtihfibelklhkbaaOpen
import Derived.Test.YtihfibelklhkbaaBits
namespace Go.Proofs.Ytihfibelklhkbaa
open Go.RowKit

/-- A length as bytes. -/
def lenB (n : Int) : Bs := if n < 128 then [u8 n] else [u8 (n / 16777216 + 128), u8 (n / 65536), u8 (n / 256), u8 n]

set_option maxRecDepth 100000 in
theorem len_short (n : Int) (w : World) (h0 : 0 ≤ n) (h1 : n < 128) :
    Calls Try.prog 54 #[.int .i64 n] w fun e w' => e = .returned (.string (bs (lenB n))) ∧ Below w.heap.size w w' := by
  have hcv := fun w' => row_text (Rg.row_bytes w' 5 [u8 n] #[.int .u8 n] (by simp [bv, u8_cast]; omega) (by simp [maxLen]))
  rw [show ([u8 n] : Bs).length = 1 from rfl] at hcv
  have e : lenB n = [u8 n] := if_pos h1
  rw [e]
  go_enter Try.func54, Try.ntmps54
  go_wp2_with fail
  go_ret
  exact ⟨rfl, below_alloc _ _⟩
set_option maxRecDepth 100000 in
theorem len_long (n : Int) (w : World) (h0 : 128 ≤ n) (h1 : n ≤ 2147483647) :
    Calls Try.prog 54 #[.int .i64 n] w fun e w' => e = .returned (.string (bs (lenB n))) ∧ Below w.heap.size w w' := by
  have hor := or_u8_128 (n / 16777216) (by omega) (by omega)
  have hcv := fun w' => row_text (Rg.row_bytes w' 5 [u8 (n / 16777216 + 128), u8 (n / 65536), u8 (n / 256), u8 n] #[.int .u8 (n / 16777216 + 128), .int .u8 (n / 65536 % 256), .int .u8 (n / 256 % 256), .int .u8 (n % 256)] (by simp [bv, u8_cast]; omega) (by simp [maxLen]))
  rw [show ([u8 (n / 16777216 + 128), u8 (n / 65536), u8 (n / 256), u8 n] : Bs).length = 4 from rfl] at hcv
  have e : lenB n = [u8 (n / 16777216 + 128), u8 (n / 65536), u8 (n / 256), u8 n] := if_neg (by omega)
  rw [e]
  go_enter Try.func54, Try.ntmps54
  go_wp2_with fail
  go_ret
  exact ⟨rfl, below_alloc _ _⟩
theorem len_any (n : Int) (w : World) (h0 : 0 ≤ n) (h1 : n ≤ 2147483647) :
    Calls Try.prog 54 #[.int .i64 n] w fun e w' => e = .returned (.string (bs (lenB n))) ∧ Below w.heap.size w w' := by
  by_cases h : n < 128
  · exact len_short n w h0 h
  · exact len_long n w (by omega) h1


/-! ### pairs -/
def pairCells (p : Bs × Bs) : List Value := [.string (bs p.1), .string (bs p.2)]
def pairB (l : List (Bs × Bs)) : Bs := l.flatMap fun p => lenB p.1.length ++ (lenB p.2.length ++ (p.1 ++ p.2))
theorem lenB_le (n : Int) : (lenB n).length ≤ 4 := by unfold lenB; split <;> simp
theorem pairB_take (l : List (Bs × Bs)) (k : Nat) (h : k < l.length) : pairB (l.take (k + 1)) = pairB (l.take k) ++ (lenB l[k].1.length ++ (lenB l[k].2.length ++ (l[k].1 ++ l[k].2))) := by
  unfold pairB
  rw [List.take_succ_eq_append_getElem h, List.flatMap_append]
  simp
theorem pairB_le (n : Nat) : ∀ (l : List (Bs × Bs)), (∀ p ∈ l, p.1.length ≤ n ∧ p.2.length ≤ n) → (pairB l).length ≤ (2 * n + 8) * l.length
  | [], _ => by simp [pairB]
  | p :: l, h => by
    have h1 := h p (by simp)
    have h2 := pairB_le n l (fun q hq => h q (by simp [hq]))
    have a := lenB_le p.1.length
    have b := lenB_le p.2.length
    have e : pairB (p :: l) = (lenB p.1.length ++ (lenB p.2.length ++ (p.1 ++ p.2))) ++ pairB l := by simp [pairB]
    rw [e, List.length_append, List.length_cons, Nat.mul_add]
    simp only [List.length_append]
    omega

set_option maxRecDepth 100000 in
set_option maxHeartbeats 4000000 in
theorem pbytes_some (b off cap : Nat) (l : List (Bs × Bs)) (w : World) (hn : l.length ≤ 1000) (hb : 0 < l.length → b < w.heap.size) (hF : ∀ p ∈ l, p.1.length ≤ 100000 ∧ p.2.length ≤ 100000)
    (hC : ∀ k (h : k < l.length), w.cell? ⟨b, off + k * 2, none⟩ = some (.string (bs l[k].1)) ∧ w.cell? ⟨b, off + k * 2 + 1, none⟩ = some (.string (bs l[k].2))) :
    Calls Try.prog 40 #[.slice (some ⟨b, off, none⟩) l.length cap] w fun e w' => e = .returned (.string (bs (pairB l))) ∧ Below w.heap.size w w' := by
  have hcell : ∀ wr, Below w.heap.size w wr → ∀ k (h : k < l.length), wr.cell? ⟨b, off + k * 2, none⟩ = some (.string (bs l[k].1)) ∧ wr.cell? ⟨b, off + k * 2 + 1, none⟩ = some (.string (bs l[k].2)) := by
    intro wr hbel k h
    rw [hbel.cell (hb (by omega)), hbel.cell (hb (by omega))]
    exact hC k h
  have HC := Lib.hid hcell
  clear hcell hC
  go_enter Try.func40, Try.ntmps40
  go_wp2_with fail
  go_loopw [3, 8] (fun s i wr => ∃ k : Nat, k ≤ l.length ∧ i = .int .i64 k ∧ s = .string (bs (pairB (l.take k))) ∧ Below w.heap.size w wr) (fun _ i _ => l.length - (intOf i).toNat)
  case atStart => exact ⟨0, Nat.zero_le _, rfl, rfl, Below.refl _ _⟩
  case round =>
    obtain ⟨k, hk, rfl, rfl, hW⟩ := hrel
    by_cases hlt : k < l.length
    · obtain ⟨c0, c1⟩ := HC.out wr hW k hlt
      have hz := Nat.lt_of_lt_of_le (hb (by omega)) hW.size
      have hp := hF _ (List.getElem_mem hlt)
      have hlen := pairB_le 100000 (l.take k) (fun p hp => hF p (List.mem_of_mem_take hp))
      have hts := pairB_take l k hlt
      rw [List.length_take] at hlen
      generalize l[k].1 = x at *
      generalize l[k].2 = y at *
      generalize pairB (l.take k) = z at *
      have hzl : z.length ≤ 200008000 := by
        have : min k l.length ≤ 1000 := by omega
        have := Nat.mul_le_mul_left (2 * 100000 + 8) this
        omega
      have lx := lenB_le x.length
      have ly := lenB_le y.length
      have HT := Lib.hid hts
      clear hlen hts
      go_wp2_with fail
      have hS : ∀ wx, Rg.Step (fun _ => ∃ _ : Nat, False) (wr.alloc (.cells #[.string (bs x), .string (bs y)] 115)) wx → wx.cell? ⟨wr.heap.size, 0, none⟩ = some (.string (bs x)) ∧ wx.cell? ⟨wr.heap.size, 1, none⟩ = some (.string (bs y)) := by
        intro wx hs
        have h := Rg.step_below hs
        rw [cell_after h, cell_after h]
        exact ⟨rfl, rfl⟩
      clear c0 c1
      refine Rg.region0 31 [.val ?_, .val ?_, .val ?_, .val ?_, .val (.string (bs (lenB x.length))), .val ?_, .val ?_, .val ?_, .val (.string (bs (lenB y.length))), .val ?_, .val ?_, .val ?_, .val ?_, .val ?_, .val ?_, .val ?_, .val ?_, .val ?_] (by kernel_rfl) (by decide +kernel) (by simp) rfl ?hstab ?hchain ?hend
      case hstab => exact Rg.stable_val (Rg.stable_val (Rg.stable_val (Rg.stable_val (Rg.stable_val (Rg.stable_val (Rg.stable_val (Rg.stable_val (Rg.stable_val (Rg.stable_val (Rg.stable_val (Rg.stable_val (Rg.stable_val (Rg.stable_val (Rg.stable_val (Rg.stable_val (Rg.stable_val (Rg.stable_val (Rg.stable_nil))))))))))))))))))
      case hchain =>
        intro vs
        -- 0: slot 12 := Op.move t3
        refine Rg.Chain.pure rfl (fun w => by go_simp; (try go_ints); with_reducible rfl) ?_
        simp only [Act.put, List.setIfInBounds_toArray, List.set_cons_succ, List.set_cons_zero]
        -- 1: slot 13 := Op.fieldAddr 115 t5 0
        refine Rg.Chain.pure rfl (fun w => by go_simp; (try go_ints); with_reducible rfl) ?_
        simp only [Act.put, List.setIfInBounds_toArray, List.set_cons_succ, List.set_cons_zero]
        -- 2: slot 14 := Op.load 9 t13
        refine Rg.Chain.read rfl (fun wx hs => by obtain ⟨q0, q1⟩ := hS wx hs; go_simp; with_reducible rfl) ?_
        simp only [Act.put, List.setIfInBounds_toArray, List.set_cons_succ, List.set_cons_zero]
        -- 3: slot 15 := Op.call ( builtin len, args := #[t14], argTypes := #[9] )
        refine Rg.Chain.pure rfl (fun w => by go_simp; (try go_ints); with_reducible rfl) ?_
        simp only [Act.put, List.setIfInBounds_toArray, List.set_cons_succ, List.set_cons_zero]
        -- 4: slot 16 := Op.call ( value (Operand.func 54), args := #[t15], argTypes := #[3] )
        refine Rg.Chain.call ?_ ?_ rfl (fun w => ?_) (fun wx hs => ?_) ?_
        rotate_left 2
        · go_simp; (try go_ints); constructor <;> with_reducible rfl
        · exact len_any _ _ (by omega) (by omega)
        simp only [Act.put, List.setIfInBounds_toArray, List.set_cons_succ, List.set_cons_zero]
        -- 5: slot 17 := Op.fieldAddr 115 t5 1
        refine Rg.Chain.pure rfl (fun w => by go_simp; (try go_ints); with_reducible rfl) ?_
        simp only [Act.put, List.setIfInBounds_toArray, List.set_cons_succ, List.set_cons_zero]
        -- 6: slot 18 := Op.load 9 t17
        refine Rg.Chain.read rfl (fun wx hs => by obtain ⟨q0, q1⟩ := hS wx hs; go_simp; with_reducible rfl) ?_
        simp only [Act.put, List.setIfInBounds_toArray, List.set_cons_succ, List.set_cons_zero]
        -- 7: slot 19 := Op.call ( builtin len, args := #[t18], argTypes := #[9] )
        refine Rg.Chain.pure rfl (fun w => by go_simp; (try go_ints); with_reducible rfl) ?_
        simp only [Act.put, List.setIfInBounds_toArray, List.set_cons_succ, List.set_cons_zero]
        -- 8: slot 20 := Op.call ( value (Operand.func 54), args := #[t19], argTypes := #[3] )
        refine Rg.Chain.call ?_ ?_ rfl (fun w => ?_) (fun wx hs => ?_) ?_
        rotate_left 2
        · go_simp; (try go_ints); constructor <;> with_reducible rfl
        · exact len_any _ _ (by omega) (by omega)
        simp only [Act.put, List.setIfInBounds_toArray, List.set_cons_succ, List.set_cons_zero]
        -- 9: slot 21 := Op.binOp BinOp.add 9 t16 t20 9
        refine Rg.Chain.pure rfl (fun w => by go_simp; (first | with_reducible rfl | rw [if_neg (by omega)])) ?_
        simp only [Act.put, List.setIfInBounds_toArray, List.set_cons_succ, List.set_cons_zero]
        -- 10: slot 22 := Op.fieldAddr 115 t5 0
        refine Rg.Chain.pure rfl (fun w => by go_simp; (try go_ints); with_reducible rfl) ?_
        simp only [Act.put, List.setIfInBounds_toArray, List.set_cons_succ, List.set_cons_zero]
        -- 11: slot 23 := Op.load 9 t22
        refine Rg.Chain.read rfl (fun wx hs => by obtain ⟨q0, q1⟩ := hS wx hs; go_simp; with_reducible rfl) ?_
        simp only [Act.put, List.setIfInBounds_toArray, List.set_cons_succ, List.set_cons_zero]
        -- 12: slot 24 := Op.binOp BinOp.add 9 t21 t23 9
        refine Rg.Chain.pure rfl (fun w => by go_simp; (first | with_reducible rfl | rw [if_neg (by omega)])) ?_
        simp only [Act.put, List.setIfInBounds_toArray, List.set_cons_succ, List.set_cons_zero]
        -- 13: slot 25 := Op.fieldAddr 115 t5 1
        refine Rg.Chain.pure rfl (fun w => by go_simp; (try go_ints); with_reducible rfl) ?_
        simp only [Act.put, List.setIfInBounds_toArray, List.set_cons_succ, List.set_cons_zero]
        -- 14: slot 26 := Op.load 9 t25
        refine Rg.Chain.read rfl (fun wx hs => by obtain ⟨q0, q1⟩ := hS wx hs; go_simp; with_reducible rfl) ?_
        simp only [Act.put, List.setIfInBounds_toArray, List.set_cons_succ, List.set_cons_zero]
        -- 15: slot 27 := Op.binOp BinOp.add 9 t24 t26 9
        refine Rg.Chain.pure rfl (fun w => by go_simp; (first | with_reducible rfl | rw [if_neg (by omega)])) ?_
        simp only [Act.put, List.setIfInBounds_toArray, List.set_cons_succ, List.set_cons_zero]
        -- 16: slot 28 := Op.binOp BinOp.add 9 t12 t27 9
        refine Rg.Chain.pure rfl (fun w => by go_simp; (first | with_reducible rfl | rw [if_neg (by omega)])) ?_
        simp only [Act.put, List.setIfInBounds_toArray, List.set_cons_succ, List.set_cons_zero]
        -- 17: slot 3 := Op.assign t28
        refine Rg.Chain.pure rfl (fun w => by go_simp; (try go_ints); with_reducible rfl) ?_
        simp only [Act.put, List.setIfInBounds_toArray, List.set_cons_succ, List.set_cons_zero]
        exact Rg.Chain.nil
      case hend =>
        intro vs F w2 hE
        have hb2 := Rg.step_below hE.step
        clear hE hS
        simp only [Rg.finalAct, Rg.slot_val, Act.put, List.setIfInBounds_toArray, List.set_cons_succ, List.set_cons_zero]
        have W2 := below_later hW (below_after hb2)
        go_wp2_with fail
        go_roundw
        case rel => exact ⟨k + 1, by omega, by go_num, by rw [HT.out], W2⟩
        case measure => simp [intOf]; omega
    · obtain rfl : k = l.length := by omega
      go_wp2_with fail
      go_ret
      rw [List.take_length]
      exact ⟨rfl, hW⟩

theorem pbytes_nil (a : Option Addr) (cap : Nat) (w : World) :
    Calls Try.prog 40 #[.slice a 0 cap] w fun e w' => e = .returned (.string (bs [])) ∧ Below w.heap.size w w' := by
  go_enter Try.func40, Try.ntmps40
  go_wp2_with fail
  refine wp_loop_rounds 1 ?_
  rw [rounds_succ]
  go_wp2_with fail
  go_ret
  exact ⟨rfl, Below.refl _ _⟩
/-- pair.Bytes at a slice of pairs. -/
theorem pbytes_any (l : List (Bs × Bs)) (v : Value) (w : World) (hR : Reads w v 2 l.length (l.flatMap pairCells)) (hn : l.length ≤ 1000) (hF : ∀ p ∈ l, p.1.length ≤ 100000 ∧ p.2.length ≤ 100000) :
    Calls Try.prog 40 #[v] w fun e w' => e = .returned (.string (bs (pairB l))) ∧ Below w.heap.size w w' := by
  have hR' := hR
  obtain ⟨_, _, a, cap, rfl, _, _, h⟩ := hR
  by_cases h0 : 0 < l.length
  · obtain ⟨b, off, rfl, hc⟩ := h h0
    have hat : ∀ k (h : k < l.length), w.cell? ⟨b, off + k * 2, none⟩ = some (.string (bs l[k].1)) ∧ w.cell? ⟨b, off + k * 2 + 1, none⟩ = some (.string (bs l[k].2)) := by
      intro k h
      have hk : l[k]? = some l[k] := List.getElem?_eq_getElem h
      exact ⟨hR'.at (fun _ _ => rfl) rfl hk (j := 0) rfl, hR'.at (fun _ _ => rfl) rfl hk (j := 1) rfl⟩
    refine pbytes_some b off cap l w hn (fun h => ?_) hF hat
    have h1 := (hat 0 h).1
    rcases Nat.lt_or_ge b w.heap.size with hlt | hge
    · exact hlt
    · simp [World.cell?, Array.getElem?_eq_none hge] at h1
  · have : l = [] := List.eq_nil_of_length_eq_zero (by omega)
    subst this
    exact pbytes_nil a cap w
end Go.Proofs.Ytihfibelklhkbaa
