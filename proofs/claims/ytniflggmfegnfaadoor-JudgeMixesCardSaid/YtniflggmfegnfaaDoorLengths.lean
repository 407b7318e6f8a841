/- What pair.length and the reference's length compute: a length at the front of bytes. No condition. -/
import Derived.Test.YtniflggmfegnfaaDoorPairs
import Derived.Test.YtniflggmfegnfaaDoorRead
import Derived.BigQuiet
namespace Go.Proofs.YtniflggmfegnfaaDoor
open Go.RowKit

/-- The length that stands at the front; what is behind; whether one stands there. -/
def longN (s : Bs) : Int := ((at0 s 0 - 128) * 16777216 + at0 s 1 * 65536) + at0 s 2 * 256 + at0 s 3
def lenN (s : Bs) : Int := if at0 s 0 < 128 then at0 s 0 else longN s
def lenTail (s : Bs) : Bs := if at0 s 0 < 128 then s.drop 1 else s.drop 4
def LenOk (s : Bs) : Prop := s ≠ [] ∧ (at0 s 0 < 128 ∨ 4 ≤ s.length)
instance (s : Bs) : Decidable (LenOk s) := by unfold LenOk; infer_instance

theorem longN_lo (s : Bs) (h : 128 ≤ at0 s 0) : 0 ≤ longN s ∧ longN s < 2147483648 := by
  have a0 := at0_hi s 0
  have a1 := at0_lo s 1
  have b1 := at0_hi s 1
  have a2 := at0_lo s 2
  have b2 := at0_hi s 2
  have a3 := at0_lo s 3
  have b3 := at0_hi s 3
  unfold longN; omega
theorem lenN_lo (s : Bs) : 0 ≤ lenN s ∧ lenN s < 2147483648 := by
  have a0 := at0_lo s 0
  unfold lenN
  split
  · omega
  · exact longN_lo s (by omega)
theorem at0_cons (b : UInt8) (r : Bs) : at0 (b :: r) 0 = b.toNat := rfl
theorem lenB_read (n : Int) (r : Bs) (h0 : 0 ≤ n) (h1 : n ≤ 2147483647) : LenOk (lenB n ++ r) ∧ lenN (lenB n ++ r) = n ∧ lenTail (lenB n ++ r) = r := by
  unfold lenB
  split
  next h =>
    have e : at0 ([u8 n] ++ r) 0 = n := by show ((u8 n).toNat : Int) = n; rw [u8_cast]; omega
    refine ⟨⟨by simp, .inl (by omega)⟩, ?_, ?_⟩
    · unfold lenN; rw [if_pos (by omega), e]
    · unfold lenTail; rw [if_pos (by omega)]; rfl
  next h =>
    have e0 : at0 ([u8 (n / 16777216 + 128), u8 (n / 65536), u8 (n / 256), u8 n] ++ r) 0 = n / 16777216 + 128 := by show ((u8 _).toNat : Int) = _; rw [u8_cast]; omega
    have e1 : at0 ([u8 (n / 16777216 + 128), u8 (n / 65536), u8 (n / 256), u8 n] ++ r) 1 = n / 65536 % 256 := by show ((u8 _).toNat : Int) = _; rw [u8_cast]
    have e2 : at0 ([u8 (n / 16777216 + 128), u8 (n / 65536), u8 (n / 256), u8 n] ++ r) 2 = n / 256 % 256 := by show ((u8 _).toNat : Int) = _; rw [u8_cast]
    have e3 : at0 ([u8 (n / 16777216 + 128), u8 (n / 65536), u8 (n / 256), u8 n] ++ r) 3 = n % 256 := by show ((u8 _).toNat : Int) = _; rw [u8_cast]
    refine ⟨⟨by simp, .inr (by simp)⟩, ?_, ?_⟩
    · unfold lenN; rw [if_neg (by omega)]; unfold longN; rw [e0, e1, e2, e3]; omega
    · unfold lenTail; rw [if_neg (by omega)]; rfl

theorem long_bits (s : Bs) (h : 128 ≤ at0 s 0) :
    bits .or .i64 ((at0 s 0 - 128) * 16777216) (at0 s 1 * 65536) = (at0 s 0 - 128) * 16777216 + at0 s 1 * 65536 ∧
    bits .or .i64 ((at0 s 0 - 128) * 16777216 + at0 s 1 * 65536) (at0 s 2 * 256) = (at0 s 0 - 128) * 16777216 + at0 s 1 * 65536 + at0 s 2 * 256 ∧
    bits .or .i64 ((at0 s 0 - 128) * 16777216 + at0 s 1 * 65536 + at0 s 2 * 256) (at0 s 3) = longN s := by
  have b0 := at0_hi s 0
  have a1 := at0_lo s 1
  have b1 := at0_hi s 1
  have a2 := at0_lo s 2
  have b2 := at0_hi s 2
  have a3 := at0_lo s 3
  have b3 := at0_hi s 3
  refine ⟨or_i64 24 _ _ (by omega) (by omega) (by omega) (by omega) (by omega), or_i64 16 _ _ (by omega) (by omega) (by omega) (by omega) (by omega), ?_⟩
  rw [or_i64 8 _ _ (by omega) (by omega) (by omega) (by omega) (by omega)]
  rfl

set_option maxRecDepth 100000 in
set_option maxHeartbeats 1000000 in
theorem length_low (s : Bs) (w : World) (h : s ≠ []) (h1 : at0 s 0 < 128) :
    Calls Tryd.prog 57 #[.string (bs s)] w fun e w' => e = .returned (.tuple #[.int .i64 (at0 s 0), .string (bs (s.drop 1)), .nilIface]) ∧ Below w.heap.size w w' := by
  have hl : 0 < s.length := List.length_pos_iff.2 h
  have hb : (s == []) = false := by simpa using h
  have a0 := at0_lo s 0
  have q2 : decide (at0 s 0 < 128) = true := by simp; omega
  go_enter Tryd.func57, Tryd.ntmps57
  go_wp2_with fail
  go_quiet (fail)
  go_wp2_with fail
  exact bodyPost_ret (v := .tuple #[.int .i64 (at0 s 0), .string (bs (s.drop 1)), .nilIface]) (by simp [results, Tryd.results57, go_sem]) rfl ⟨rfl, below_drewN (Below.refl _ _) _⟩
set_option maxRecDepth 100000 in
set_option maxHeartbeats 1000000 in
theorem length_high (s : Bs) (w : World) (h : 4 ≤ s.length) (h1 : 128 ≤ at0 s 0) :
    Calls Tryd.prog 57 #[.string (bs s)] w fun e w' => e = .returned (.tuple #[.int .i64 (longN s), .string (bs (s.drop 4)), .nilIface]) ∧ Below w.heap.size w w' := by
  have hb : (s == []) = false := by cases s <;> simp_all
  have a0 := at0_lo s 0
  have b0 := at0_hi s 0
  have a1 := at0_lo s 1
  have b1 := at0_hi s 1
  have a2 := at0_lo s 2
  have b2 := at0_hi s 2
  have a3 := at0_lo s 3
  have b3 := at0_hi s 3
  have q2 : decide (at0 s 0 < 128) = false := by simp; omega
  have q4 : decide ((s.length : Int) < 4) = false := by simp; omega
  obtain ⟨e1, e2, e3⟩ := long_bits s h1
  generalize longN s = E at e3 ⊢
  go_enter Tryd.func57, Tryd.ntmps57
  go_wp2_with fail
  go_quiet (fail)
  go_wp2_with fail
  exact bodyPost_ret (v := .tuple #[.int .i64 E, .string (bs (s.drop 4)), .nilIface]) (by simp [results, Tryd.results57, go_sem]) rfl ⟨rfl, below_drewN (Below.refl _ _) _⟩
theorem length_ok (s : Bs) (w : World) (h : LenOk s) :
    Calls Tryd.prog 57 #[.string (bs s)] w fun e w' => e = .returned (.tuple #[.int .i64 (lenN s), .string (bs (lenTail s)), .nilIface]) ∧ Below w.heap.size w w' := by
  unfold lenN lenTail
  by_cases h1 : at0 s 0 < 128
  · rw [if_pos h1, if_pos h1]; exact length_low s w h.1 h1
  · rw [if_neg h1, if_neg h1]; exact length_high s w (h.2.resolve_left h1) (by omega)
set_option maxRecDepth 100000 in
theorem length_no (s : Bs) (w : World) (h : ¬ LenOk s) :
    Calls Tryd.prog 57 #[.string (bs s)] w fun e w' => e = .returned (.tuple #[.int .i64 0, .string (bs s), eV 11]) ∧ Below w.heap.size w w' := by
  by_cases h0 : s = []
  · subst h0
    clear h
    go_enter Tryd.func57, Tryd.ntmps57
    go_wp2_with fail
    exact bodyPost_ret (v := .tuple #[.int .i64 0, .string (bs []), eV 11]) (by simp [results, Tryd.results57, go_sem]; try rfl) rfl ⟨rfl, Below.refl _ _⟩
  · have hl : 0 < s.length := List.length_pos_iff.2 h0
    have hb : (s == []) = false := by simpa using h0
    have h1 : ¬ at0 s 0 < 128 := fun h1 => h ⟨h0, .inl h1⟩
    have h2 : ¬ 4 ≤ s.length := fun h2 => h ⟨h0, .inr h2⟩
    have q2 : decide (at0 s 0 < 128) = false := by simp; omega
    have q4 : decide ((s.length : Int) < 4) = true := by simp; omega
    clear h h1 h2
    go_enter Tryd.func57, Tryd.ntmps57
    go_wp2_with fail
    exact bodyPost_ret (v := .tuple #[.int .i64 0, .string (bs s), eV 11]) (by simp [results, Tryd.results57, go_sem]; try rfl) rfl ⟨rfl, Below.refl _ _⟩
end Go.Proofs.YtniflggmfegnfaaDoor
