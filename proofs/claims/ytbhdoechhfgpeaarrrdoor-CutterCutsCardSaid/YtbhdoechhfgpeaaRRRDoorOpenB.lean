/- A slice of bytes that came in: opened to a list. No condition. -/
import Derived.Test.YtbhdoechhfgpeaaRRRDoorOpenP
import Derived.Test.YtbhdoechhfgpeaaRRRDoorAid
namespace Go.Proofs.YtbhdoechhfgpeaaRRRDoor
open Go.RowKit Go.ChangeShapes Go.WideShapes Go.Deep
section
variable {H : Type} {enc : TypeId × Value → H} {w : World} {base : Nat} {spare : Nat → Bool} {held : Bool}
theorem one_u8 : Tryd.prog.cellsOf 5 = 1 := by kernel_rfl
theorem dec_u8 {n : Nat} {cs : List Value} {y : DataW H × List MemPlace} (h : DataW.trod enc Tryd.prog w base spare held n 5 cs = some y) : ∃ b : UInt8, cs = [bv b] := by
  obtain ⟨q, hq, _, hw⟩ := DataW.trod_int Tryd.underlying5 h
  obtain ⟨h0, h1⟩ := wf_u8 hw
  exact ⟨u8 q, by rw [hq, bv_lit q h0 h1]⟩
theorem open_u8s {fuel : Nat} {v : Value} {x : DataW H × List MemPlace} (h : DataW.trod enc Tryd.prog w base spare held fuel 23 [v] = some x) :
    ∃ rs : List UInt8, Reads w v 1 rs.length (rs.flatMap fun b => [bv b]) :=
  open_elems (α := UInt8) (fun b => [bv b]) (by decide) (fun r => rfl) Tryd.underlying23 one_u8 (fun n cs y hy => dec_u8 hy) h
end
end Go.Proofs.YtbhdoechhfgpeaaRRRDoor
