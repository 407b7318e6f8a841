/- What record.Bytes and the reference's Bytes compute: a record as bytes. Condition: the content is no longer than an int tells. -/
import Derived.Test.YtihfibelklhkbaaRec
import Derived.Test.YtihfibelklhkbaaApp
import Derived.Test.YtihfibelklhkbaaShelf
namespace Go.Proofs.Ytihfibelklhkbaa
open Go.RowKit

theorem rec_bytes {t i p : Int} {c : Bs} (h : (⟨t, i, c, p⟩ : Rec).Is) :
    1 :: u8 t :: (two i ++ (two (c.length : Int) ++ u8 p :: 0 :: (c ++ List.replicate p.toNat 0))) = (⟨t, i, c, p⟩ : Rec).bytes := by
  unfold Rec.bytes; rw [if_pos h]

theorem repeat_zero (n : Nat) : Lib.repeatL [0] n = List.replicate n (0 : UInt8) := by
  induction n with
  | zero => rfl
  | succ n ih => rw [List.replicate_succ, ← ih]; rfl

theorem repeat_any (n : Int) (w : World) (h0 : 0 ≤ n) (h1 : n ≤ 1000000) :
    Calls Try.prog 62 #[.string (bs [0]), .int .i64 n] w fun e w' => e = .returned (.string (bs (List.replicate n.toNat 0))) ∧ Below w.heap.size w w' := by
  have := Try.strings_Repeat (bs [0]) n.toNat w (by omega) (by simp [bs_size]; omega)
  have e : ((n.toNat : Nat) : Int) = n := by omega
  rw [e] at this
  refine this.mono fun e w' ⟨he, hb⟩ => ⟨?_, hb⟩
  rw [he]
  show Ending.returned (.string ⟨(Lib.repeatL [0] n.toNat).toArray⟩) = _
  rw [repeat_zero]
  rfl


end Go.Proofs.Ytihfibelklhkbaa
