/- What the document says of octets, records, pairs, kinds, frames: as plain functions on lists of bytes, and laws on them. No program. -/
import Derived.Below
import Derived.WalkKit
namespace Go.Proofs.Ytihfibelklhkbaa

abbrev Bs := List UInt8
/-- The byte of a number. -/
def u8 (n : Int) : UInt8 := UInt8.ofNat (n % 256).toNat
theorem u8_cast (n : Int) : ((u8 n).toNat : Int) = n % 256 := by
  unfold u8
  rw [UInt8.toNat_ofNat']
  omega
theorem u8_byte (b : UInt8) : u8 (b.toNat : Int) = b := by
  apply UInt8.toNat_inj.1
  have h1 := u8_cast (b.toNat : Int)
  have h2 := b.toNat_lt
  omega
/-- The i-th byte as a number; 0 beyond the end. -/
def at0 (s : Bs) (i : Nat) : Int := ((s.getD i 0).toNat : Int)
theorem at0_lo (s : Bs) (i : Nat) : 0 ≤ at0 s i := by unfold at0; omega
theorem at0_hi (s : Bs) (i : Nat) : at0 s i < 256 := by unfold at0; have := (s.getD i 0).toNat_lt; omega

/-! ### records -/
structure Rec where
  t : Int
  id : Int
  c : Bs
  p : Int
def Rec.zero : Rec := ⟨0, 0, [], 0⟩
def Rec.Is (r : Rec) : Prop := 1 ≤ r.t ∧ r.t ≤ 255 ∧ 0 ≤ r.id ∧ r.id ≤ 65535 ∧ r.c.length ≤ 65535 ∧ 0 ≤ r.p ∧ r.p ≤ 255
instance (r : Rec) : Decidable r.Is := by unfold Rec.Is; infer_instance
/-- Two bytes of a number, the higher first. -/
def two (n : Int) : Bs := [u8 (n / 256), u8 n]
theorem two_len (n : Int) : (two n).length = 2 := rfl
def Rec.bytes (r : Rec) : Bs := if r.Is then 1 :: u8 r.t :: (two r.id ++ (two r.c.length ++ u8 r.p :: 0 :: (r.c ++ List.replicate r.p.toNat 0))) else []
/-- How long the record in front is, by its head. -/
def wholeN (s : Bs) : Int := 8 + at0 s 4 * 256 + at0 s 5 + at0 s 6
def recRead (s : Bs) : Rec × Bs × Int :=
  if s ≠ [] ∧ at0 s 0 ≠ 1 then (Rec.zero, s, 13)
  else if s.length < 8 then (Rec.zero, s, 11)
  else if (s.length : Int) < wholeN s then (Rec.zero, s, 11)
  else if at0 s 1 = 0 then (Rec.zero, s, 10)
  else (⟨at0 s 1, at0 s 2 * 256 + at0 s 3, (s.take (wholeN s - at0 s 6).toNat).drop 8, at0 s 6⟩, s.drop (wholeN s).toNat, 0)
def padN (n : Int) : Int := (8 - (max n 0) % 8) % 8
end Go.Proofs.Ytihfibelklhkbaa
