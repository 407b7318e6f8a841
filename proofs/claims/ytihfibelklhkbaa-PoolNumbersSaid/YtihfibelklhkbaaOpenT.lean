/- A slice of texts that came in: opened to a list. No condition. And what follows from it. -/
import Derived.Test.YtihfibelklhkbaaOpenP
import Derived.Test.YtihfibelklhkbaaAid
/- A slice of texts that came in: opened to a list. No condition. -/
namespace Go.Proofs.Ytihfibelklhkbaa
open Go.RowKit Go.ChangeShapes Go.WideShapes Go.Deep
def textCells (c : Bs) : List Value := [.string (bs c)]
section
variable {H : Type} {enc : TypeId × Value → H} {w : World} {base : Nat} {spare : Nat → Bool} {held : Bool}
theorem dec_text {n : Nat} {cs : List Value} {y : DataW H × List MemPlace} (h : DataW.trod enc Try.prog w base spare held n 9 cs = some y) : ∃ c : Bs, cs = textCells c ∧ c.length ≤ maxLen := by
  obtain ⟨c, hq, _, hw⟩ := DataW.trod_string Try.underlying9 h
  have e : c.data.toList.length = c.size := Array.length_toList
  refine ⟨c.data.toList, ?_, by rw [e]; exact hw⟩
  rw [hq]
  show [Value.string c] = [.string (bs c.data.toList)]
  rw [← bs_of]
end
end Go.Proofs.Ytihfibelklhkbaa

/- A slice of bytes that came in: opened to a list. No condition. -/
namespace Go.Proofs.Ytihfibelklhkbaa
open Go.RowKit Go.ChangeShapes Go.WideShapes Go.Deep
section
variable {H : Type} {enc : TypeId × Value → H} {w : World} {base : Nat} {spare : Nat → Bool} {held : Bool}
theorem one_u8 : Try.prog.cellsOf 5 = 1 := by kernel_rfl
theorem dec_u8 {n : Nat} {cs : List Value} {y : DataW H × List MemPlace} (h : DataW.trod enc Try.prog w base spare held n 5 cs = some y) : ∃ b : UInt8, cs = [bv b] := by
  obtain ⟨q, hq, _, hw⟩ := DataW.trod_int Try.underlying5 h
  obtain ⟨h0, h1⟩ := wf_u8 hw
  exact ⟨u8 q, by rw [hq, bv_lit q h0 h1]⟩
theorem open_u8s {fuel : Nat} {v : Value} {x : DataW H × List MemPlace} (h : DataW.trod enc Try.prog w base spare held fuel 34 [v] = some x) :
    ∃ rs : List UInt8, Reads w v 1 rs.length (rs.flatMap fun b => [bv b]) :=
  open_elems (α := UInt8) (fun b => [bv b]) (by decide) (fun r => rfl) Try.underlying34 one_u8 (fun n cs y hy => dec_u8 hy) h
end
end Go.Proofs.Ytihfibelklhkbaa
