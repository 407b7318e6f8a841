/- '|' of numbers that share no bit is their sum. No condition. -/
import Derived.Test.YtihfibelklhkbaaBase
import Derived.Laws.Bits64b
namespace Go.Proofs.Ytihfibelklhkbaa
open Go.RowKit

theorem or_nat (n a b : Nat) (ha : a % 2 ^ n = 0) (hb : b < 2 ^ n) : a ||| b = a + b := by
  obtain ⟨c, rfl⟩ := Nat.dvd_of_mod_eq_zero ha
  exact (Nat.two_pow_add_eq_or_of_lt hb c).symm

theorem bv_nat (k : Nat) (a : Nat) (h : a < 2 ^ k) : (BitVec.ofInt k (a : Int)).toNat = a := by
  rw [BitVec.ofInt_natCast, BitVec.toNat_ofNat]; exact Nat.mod_eq_of_lt h

theorem or_i64 (n : Nat) (a b : Int) (h0 : 0 ≤ a) (ha : a % 2 ^ n = 0) (hb0 : 0 ≤ b) (hb : b < 2 ^ n) (h : a + b < 9223372036854775808) : bits .or .i64 a b = a + b := by
  obtain ⟨x, rfl⟩ : ∃ x : Nat, a = x := ⟨a.toNat, by omega⟩
  obtain ⟨y, rfl⟩ : ∃ y : Nat, b = y := ⟨b.toNat, by omega⟩
  have hx : x % 2 ^ n = 0 := by exact_mod_cast ha
  have hy : y < 2 ^ n := by exact_mod_cast hb
  show IntKind.i64.wrap ((BitVec.ofInt 64 (x : Int) ||| BitVec.ofInt 64 (y : Int)).toNat : Int) = _
  rw [BitVec.toNat_or, bv_nat 64 x (by omega), bv_nat 64 y (by omega), or_nat n x y hx hy]
  simp [IntKind.wrap, IntKind.bits, IntKind.signed]
  omega
theorem or_u32 (n : Nat) (a b : Int) (h0 : 0 ≤ a) (ha : a % 2 ^ n = 0) (hb0 : 0 ≤ b) (hb : b < 2 ^ n) (h : a + b < 4294967296) : bits .or .u32 a b = a + b := by
  obtain ⟨x, rfl⟩ : ∃ x : Nat, a = x := ⟨a.toNat, by omega⟩
  obtain ⟨y, rfl⟩ : ∃ y : Nat, b = y := ⟨b.toNat, by omega⟩
  have hx : x % 2 ^ n = 0 := by exact_mod_cast ha
  have hy : y < 2 ^ n := by exact_mod_cast hb
  show IntKind.u32.wrap ((BitVec.ofInt 32 (x : Int) ||| BitVec.ofInt 32 (y : Int)).toNat : Int) = _
  rw [BitVec.toNat_or, bv_nat 32 x (by omega), bv_nat 32 y (by omega), or_nat n x y hx hy]
  simp [IntKind.wrap, IntKind.bits, IntKind.signed]
  omega
theorem or_u8_128 (a : Int) (h0 : 0 ≤ a) (h : a < 128) : bits .or .u8 a 128 = a + 128 := by
  obtain ⟨x, rfl⟩ : ∃ x : Nat, a = x := ⟨a.toNat, by omega⟩
  have e : x ||| 128 = x + 128 := by rw [Nat.or_comm, or_nat 7 128 x rfl (by omega), Nat.add_comm]
  show IntKind.u8.wrap ((BitVec.ofInt 8 (x : Int) ||| BitVec.ofInt 8 ((128 : Nat) : Int)).toNat : Int) = _
  rw [BitVec.toNat_or, bv_nat 8 x (by omega), bv_nat 8 128 (by omega), e]
  simp [IntKind.wrap, IntKind.bits, IntKind.signed]
  omega
theorem and_u8_1 (a : Int) (h0 : 0 ≤ a) (h : a < 256) : bits .and .u8 a 1 = a % 2 := by
  obtain ⟨x, rfl⟩ : ∃ x : Nat, a = x := ⟨a.toNat, by omega⟩
  show IntKind.u8.wrap ((BitVec.ofInt 8 (x : Int) &&& BitVec.ofInt 8 ((1 : Nat) : Int)).toNat : Int) = _
  rw [BitVec.toNat_and, bv_nat 8 x (by omega), bv_nat 8 1 (by omega), Nat.and_one_is_mod]
  simp [IntKind.wrap, IntKind.bits, IntKind.signed]
  omega
/-- Two bytes of a number. -/
theorem or_two (a b : Int) (a0 : 0 ≤ a) (a1 : a < 256) (b0 : 0 ≤ b) (b1 : b < 256) : bits .or .i64 (a * 256) b = a * 256 + b :=
  or_i64 8 _ _ (by omega) (by omega) b0 (by omega) (by omega)
end Go.Proofs.Ytihfibelklhkbaa
