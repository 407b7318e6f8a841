/-
  No cell of these rows narrows 'for every input' (looked for: loops, veiled, ifaces, maps, wideKeys, modest, calm, conditions, laid).
  DERIVED. THE GIVEN ROWS OF THIS SEAT. 9 by the template 'for every input the law returns true; each argument reads behind the call as it read before'; 0 by the template 'total and deterministic' (their statements: YtfhddeghmlnobaaTotals.lean).
  GIVEN WITH THE SEED: the statements are not yours to turn. If you find one false, say at which input.
  Laid BY PROGRAM, IN A SANDBOX (cutbox-rows.mjs): the forced cells as the released guide's own fill.sh prints them over the translation 28a83fe51a3f1c06… (all of the seat's roots in one cut). By AI agents, Wed Nov 11 2026. No macro, syntax, notation, axiom, sorry.
-/
import Derived.Test.YtfhddeghmlnobaaChecked
import GoSem.Claim
import GoSem.ClaimJoined
import GoSem.ClaimMapViews
import Derived.JoinedTies
import Derived.KernelRfl
namespace Go.Proofs.Ytfhddeghmlnobaa
/- THE CELL 'sum', in the pinned program and in every row, IS THE sha256 OF THE DUMP (.gsa) THAT YtfhddeghmlnobaaProg.lean LOADS. Nothing in Lean hashes anything: it is a label: what it is worth is what the hold of that sum in a sandbox is worth. -/
noncomputable def Try.pinned : Pinned := { name := "ytfhddeghmlnobaa", sum := "28a83fe51a3f1c068c450806d2dfeb2c081507a1388933f70f59f5f175d09c15", checked := Try.checked }
namespace Rows
def none {H : Type} : Left H := { results := [], args := [] }

/-- 'conduitlaw18.FramesTells': WHATEVER THE INPUT: true; the input reads as it did. -/
def framesTellsSpec : ChangeSpec := { name := "framesTells", fn := fun _ => fun
  | [d1, d2, d3, d4] => { results := [.lit (.bool true)], args := [d1, d2, d3, d4] }
  | _ => none }
def framesTellsRow : OpenClaim := { program := "ytfhddeghmlnobaa", sum := "28a83fe51a3f1c068c450806d2dfeb2c081507a1388933f70f59f5f175d09c15", func := "conduit/conduitlaw18.FramesTells", spec := "framesTells", inPlace := ["internal/abi.NoEscape", "internal/bytealg.MakeNoZero"], apart := false }
def FramesTellsSaid : Prop := framesTellsRow.holds Try.pinned (OpenSpec.ofChange framesTellsSpec)

/-- ITS FALSE NEIGHBOUR: 'it returns false'. Refute it at one input. -/
def framesTellsWrong : ChangeSpec := { name := "framesTells", fn := fun _ => fun
  | [d1, d2, d3, d4] => { results := [.lit (.bool false)], args := [d1, d2, d3, d4] }
  | _ => none }
def FramesTellsWrongFalsely : Prop := framesTellsRow.holds Try.pinned (OpenSpec.ofChange framesTellsWrong)

/-- 'conduitlaw18.FramesBack': WHATEVER THE INPUT: true; the input reads as it did. -/
def framesBackSpec : ChangeSpec := { name := "framesBack", fn := fun _ => fun
  | [d1, d2, d3] => { results := [.lit (.bool true)], args := [d1, d2, d3] }
  | _ => none }
def framesBackRow : OpenClaim := { program := "ytfhddeghmlnobaa", sum := "28a83fe51a3f1c068c450806d2dfeb2c081507a1388933f70f59f5f175d09c15", func := "conduit/conduitlaw18.FramesBack", spec := "framesBack", inPlace := ["internal/abi.NoEscape", "internal/bytealg.MakeNoZero"], apart := false }
def FramesBackSaid : Prop := framesBackRow.holds Try.pinned (OpenSpec.ofChange framesBackSpec)

/-- ITS FALSE NEIGHBOUR: 'it returns false'. Refute it at one input. -/
def framesBackWrong : ChangeSpec := { name := "framesBack", fn := fun _ => fun
  | [d1, d2, d3] => { results := [.lit (.bool false)], args := [d1, d2, d3] }
  | _ => none }
def FramesBackWrongFalsely : Prop := framesBackRow.holds Try.pinned (OpenSpec.ofChange framesBackWrong)

/-- 'conduitlaw18.FramesSizes': WHATEVER THE INPUT: true; the input reads as it did. -/
def framesSizesSpec : ChangeSpec := { name := "framesSizes", fn := fun _ => fun
  | [d] => { results := [.lit (.bool true)], args := [d] }
  | _ => none }
def framesSizesRow : OpenClaim := { program := "ytfhddeghmlnobaa", sum := "28a83fe51a3f1c068c450806d2dfeb2c081507a1388933f70f59f5f175d09c15", func := "conduit/conduitlaw18.FramesSizes", spec := "framesSizes", inPlace := ["internal/abi.NoEscape", "internal/bytealg.MakeNoZero"], apart := false }
def FramesSizesSaid : Prop := framesSizesRow.holds Try.pinned (OpenSpec.ofChange framesSizesSpec)

/-- ITS FALSE NEIGHBOUR: 'it returns false'. Refute it at one input. -/
def framesSizesWrong : ChangeSpec := { name := "framesSizes", fn := fun _ => fun
  | [d] => { results := [.lit (.bool false)], args := [d] }
  | _ => none }
def FramesSizesWrongFalsely : Prop := framesSizesRow.holds Try.pinned (OpenSpec.ofChange framesSizesWrong)

/-- 'conduitlaw2.RecordBack': WHATEVER THE INPUT: true; the input reads as it did. -/
def recordBackSpec : ChangeSpec := { name := "recordBack", fn := fun _ => fun
  | [d1, d2, d3, d4, d5, d6] => { results := [.lit (.bool true)], args := [d1, d2, d3, d4, d5, d6] }
  | _ => none }
def recordBackRow : OpenClaim := { program := "ytfhddeghmlnobaa", sum := "28a83fe51a3f1c068c450806d2dfeb2c081507a1388933f70f59f5f175d09c15", func := "conduit/conduitlaw2.RecordBack", spec := "recordBack", inPlace := ["internal/abi.NoEscape", "internal/bytealg.MakeNoZero", "internal/reflectlite.TypeOf"], unfollowed := true, recurses := true, apart := false }
def RecordBackSaid : Prop := recordBackRow.holds Try.pinned (OpenSpec.ofChange recordBackSpec)

/-- ITS FALSE NEIGHBOUR: 'it returns false'. Refute it at one input. -/
def recordBackWrong : ChangeSpec := { name := "recordBack", fn := fun _ => fun
  | [d1, d2, d3, d4, d5, d6] => { results := [.lit (.bool false)], args := [d1, d2, d3, d4, d5, d6] }
  | _ => none }
def RecordBackWrongFalsely : Prop := recordBackRow.holds Try.pinned (OpenSpec.ofChange recordBackWrong)

/-- 'conduitlaw2.RecordRows': WHATEVER THE INPUT: true; the input reads as it did. -/
def recordRowsSpec : ChangeSpec := { name := "recordRows", fn := fun _ => fun
  | [d] => { results := [.lit (.bool true)], args := [d] }
  | _ => none }
def recordRowsRow : OpenClaim := { program := "ytfhddeghmlnobaa", sum := "28a83fe51a3f1c068c450806d2dfeb2c081507a1388933f70f59f5f175d09c15", func := "conduit/conduitlaw2.RecordRows", spec := "recordRows", inPlace := ["internal/abi.NoEscape", "internal/bytealg.MakeNoZero", "internal/reflectlite.TypeOf"], unfollowed := true, recurses := true, apart := false }
def RecordRowsSaid : Prop := recordRowsRow.holds Try.pinned (OpenSpec.ofChange recordRowsSpec)

/-- ITS FALSE NEIGHBOUR: 'it returns false'. Refute it at one input. -/
def recordRowsWrong : ChangeSpec := { name := "recordRows", fn := fun _ => fun
  | [d] => { results := [.lit (.bool false)], args := [d] }
  | _ => none }
def RecordRowsWrongFalsely : Prop := recordRowsRow.holds Try.pinned (OpenSpec.ofChange recordRowsWrong)

/-- 'conduitlaw2.RecordLimits': WHATEVER THE INPUT: true; the input reads as it did. -/
def recordLimitsSpec : ChangeSpec := { name := "recordLimits", fn := fun _ => fun
  | [d1, d2] => { results := [.lit (.bool true)], args := [d1, d2] }
  | _ => none }
def recordLimitsRow : OpenClaim := { program := "ytfhddeghmlnobaa", sum := "28a83fe51a3f1c068c450806d2dfeb2c081507a1388933f70f59f5f175d09c15", func := "conduit/conduitlaw2.RecordLimits", spec := "recordLimits", inPlace := ["internal/abi.NoEscape", "internal/bytealg.MakeNoZero", "internal/reflectlite.TypeOf"], unfollowed := true, recurses := true, apart := false }
def RecordLimitsSaid : Prop := recordLimitsRow.holds Try.pinned (OpenSpec.ofChange recordLimitsSpec)

/-- ITS FALSE NEIGHBOUR: 'it returns false'. Refute it at one input. -/
def recordLimitsWrong : ChangeSpec := { name := "recordLimits", fn := fun _ => fun
  | [d1, d2] => { results := [.lit (.bool false)], args := [d1, d2] }
  | _ => none }
def RecordLimitsWrongFalsely : Prop := recordLimitsRow.holds Try.pinned (OpenSpec.ofChange recordLimitsWrong)

/-- 'conduitlaw2.RecordJunk': WHATEVER THE INPUT: true; the input reads as it did. -/
def recordJunkSpec : ChangeSpec := { name := "recordJunk", fn := fun _ => fun
  | [d1, d2, d3, d4] => { results := [.lit (.bool true)], args := [d1, d2, d3, d4] }
  | _ => none }
def recordJunkRow : OpenClaim := { program := "ytfhddeghmlnobaa", sum := "28a83fe51a3f1c068c450806d2dfeb2c081507a1388933f70f59f5f175d09c15", func := "conduit/conduitlaw2.RecordJunk", spec := "recordJunk", inPlace := ["internal/abi.NoEscape", "internal/bytealg.MakeNoZero", "internal/reflectlite.TypeOf"], unfollowed := true, recurses := true, apart := false }
def RecordJunkSaid : Prop := recordJunkRow.holds Try.pinned (OpenSpec.ofChange recordJunkSpec)

/-- ITS FALSE NEIGHBOUR: 'it returns false'. Refute it at one input. -/
def recordJunkWrong : ChangeSpec := { name := "recordJunk", fn := fun _ => fun
  | [d1, d2, d3, d4] => { results := [.lit (.bool false)], args := [d1, d2, d3, d4] }
  | _ => none }
def RecordJunkWrongFalsely : Prop := recordJunkRow.holds Try.pinned (OpenSpec.ofChange recordJunkWrong)

/-- 'conduitlaw4.KindBack': WHATEVER THE INPUT: true; the input reads as it did. -/
def kindBackSpec : ChangeSpec := { name := "kindBack", fn := fun _ => fun
  | [d1, d2, d3, d4, d5] => { results := [.lit (.bool true)], args := [d1, d2, d3, d4, d5] }
  | _ => none }
def kindBackRow : OpenClaim := { program := "ytfhddeghmlnobaa", sum := "28a83fe51a3f1c068c450806d2dfeb2c081507a1388933f70f59f5f175d09c15", func := "conduit/conduitlaw4.KindBack", spec := "kindBack", inPlace := ["internal/abi.NoEscape", "internal/bytealg.MakeNoZero", "internal/reflectlite.TypeOf"], unfollowed := true, recurses := true, apart := false }
def KindBackSaid : Prop := kindBackRow.holds Try.pinned (OpenSpec.ofChange kindBackSpec)

/-- ITS FALSE NEIGHBOUR: 'it returns false'. Refute it at one input. -/
def kindBackWrong : ChangeSpec := { name := "kindBack", fn := fun _ => fun
  | [d1, d2, d3, d4, d5] => { results := [.lit (.bool false)], args := [d1, d2, d3, d4, d5] }
  | _ => none }
def KindBackWrongFalsely : Prop := kindBackRow.holds Try.pinned (OpenSpec.ofChange kindBackWrong)

/-- 'conduitlaw4.KindNames': WHATEVER THE INPUT: true; the input reads as it did. -/
def kindNamesSpec : ChangeSpec := { name := "kindNames", fn := fun _ => fun
  | [d1, d2] => { results := [.lit (.bool true)], args := [d1, d2] }
  | _ => none }
def kindNamesRow : OpenClaim := { program := "ytfhddeghmlnobaa", sum := "28a83fe51a3f1c068c450806d2dfeb2c081507a1388933f70f59f5f175d09c15", func := "conduit/conduitlaw4.KindNames", spec := "kindNames", inPlace := ["internal/abi.NoEscape", "internal/bytealg.MakeNoZero", "internal/reflectlite.TypeOf"], unfollowed := true, recurses := true, apart := false }
def KindNamesSaid : Prop := kindNamesRow.holds Try.pinned (OpenSpec.ofChange kindNamesSpec)

/-- ITS FALSE NEIGHBOUR: 'it returns false'. Refute it at one input. -/
def kindNamesWrong : ChangeSpec := { name := "kindNames", fn := fun _ => fun
  | [d1, d2] => { results := [.lit (.bool false)], args := [d1, d2] }
  | _ => none }
def KindNamesWrongFalsely : Prop := kindNamesRow.holds Try.pinned (OpenSpec.ofChange kindNamesWrong)

/- THE SECOND FORM. 'bulk': how many values and letters a reading holds, each counted each time it is reached (what is shared counts as often as it is met; a slice's spare places count too). A statement '..UptoSaid' is the law's where the arguments, and the package variables that the reading takes, are together of bulk at most 1048576: NARROWER than '..Said'. Prove '..Said' where nothing that the law and all that it calls make is longer than what came in: it says more and counts as full. Else prove '..UptoSaid'. A law counts once. -/
mutual
def uptoBulk {H : Type} : DataW H → Nat
  | .lit (.string bytes) => bytes.length + 1
  | .lit _ => 1
  | .nil => 1
  | .ptr d => uptoBulk d + 1
  | .slice elems spare => uptoBulkAll elems + uptoBulkAll spare + 1
  | .agg parts => uptoBulkAll parts + 1
  | .iface _ d => uptoBulk d + 1
  | .map entries => uptoBulkEntries entries + 1
  | .held _ => 1
def uptoBulkAll {H : Type} : List (DataW H) → Nat
  | [] => 0
  | d :: r => uptoBulk d + uptoBulkAll r
def uptoBulkEntries {H : Type} : List (Lit × DataW H) → Nat
  | [] => 0
  | x :: r => uptoBulkEntry x + uptoBulkEntries r
def uptoBulkEntry {H : Type} : Lit × DataW H → Nat
  | (.string bytes, d) => bytes.length + uptoBulk d + 1
  | (_, d) => uptoBulk d + 1
 end
def uptoSmall : (H : Type) → List (DataW H) → Bool := fun _ ds => decide (uptoBulkAll ds ≤ 1048576)
def OpenSpec.upto (s : _root_.Go.ChangeSpec) : _root_.Go.OpenSpec := { _root_.Go.OpenSpec.ofChange s with cond := some uptoSmall }

/-- 'conduitlaw18.FramesTells', WHERE WHAT IT READS IS OF BULK AT MOST 1048576: true; the input reads as it did. -/
def framesTellsUptoRow : OpenClaim := { program := "ytfhddeghmlnobaa", sum := "28a83fe51a3f1c068c450806d2dfeb2c081507a1388933f70f59f5f175d09c15", func := "conduit/conduitlaw18.FramesTells", spec := "framesTells", inPlace := ["internal/abi.NoEscape", "internal/bytealg.MakeNoZero"], apart := false, narrowed := true }
def FramesTellsUptoSaid : Prop := framesTellsUptoRow.holds Try.pinned (OpenSpec.upto framesTellsSpec)

/-- 'conduitlaw18.FramesBack', WHERE WHAT IT READS IS OF BULK AT MOST 1048576: true; the input reads as it did. -/
def framesBackUptoRow : OpenClaim := { program := "ytfhddeghmlnobaa", sum := "28a83fe51a3f1c068c450806d2dfeb2c081507a1388933f70f59f5f175d09c15", func := "conduit/conduitlaw18.FramesBack", spec := "framesBack", inPlace := ["internal/abi.NoEscape", "internal/bytealg.MakeNoZero"], apart := false, narrowed := true }
def FramesBackUptoSaid : Prop := framesBackUptoRow.holds Try.pinned (OpenSpec.upto framesBackSpec)

/-- 'conduitlaw18.FramesSizes', WHERE WHAT IT READS IS OF BULK AT MOST 1048576: true; the input reads as it did. -/
def framesSizesUptoRow : OpenClaim := { program := "ytfhddeghmlnobaa", sum := "28a83fe51a3f1c068c450806d2dfeb2c081507a1388933f70f59f5f175d09c15", func := "conduit/conduitlaw18.FramesSizes", spec := "framesSizes", inPlace := ["internal/abi.NoEscape", "internal/bytealg.MakeNoZero"], apart := false, narrowed := true }
def FramesSizesUptoSaid : Prop := framesSizesUptoRow.holds Try.pinned (OpenSpec.upto framesSizesSpec)

/-- 'conduitlaw2.RecordBack', WHERE WHAT IT READS IS OF BULK AT MOST 1048576: true; the input reads as it did. -/
def recordBackUptoRow : OpenClaim := { program := "ytfhddeghmlnobaa", sum := "28a83fe51a3f1c068c450806d2dfeb2c081507a1388933f70f59f5f175d09c15", func := "conduit/conduitlaw2.RecordBack", spec := "recordBack", inPlace := ["internal/abi.NoEscape", "internal/bytealg.MakeNoZero", "internal/reflectlite.TypeOf"], unfollowed := true, recurses := true, apart := false, narrowed := true }
def RecordBackUptoSaid : Prop := recordBackUptoRow.holds Try.pinned (OpenSpec.upto recordBackSpec)

/-- 'conduitlaw2.RecordRows', WHERE WHAT IT READS IS OF BULK AT MOST 1048576: true; the input reads as it did. -/
def recordRowsUptoRow : OpenClaim := { program := "ytfhddeghmlnobaa", sum := "28a83fe51a3f1c068c450806d2dfeb2c081507a1388933f70f59f5f175d09c15", func := "conduit/conduitlaw2.RecordRows", spec := "recordRows", inPlace := ["internal/abi.NoEscape", "internal/bytealg.MakeNoZero", "internal/reflectlite.TypeOf"], unfollowed := true, recurses := true, apart := false, narrowed := true }
def RecordRowsUptoSaid : Prop := recordRowsUptoRow.holds Try.pinned (OpenSpec.upto recordRowsSpec)

/-- 'conduitlaw2.RecordLimits', WHERE WHAT IT READS IS OF BULK AT MOST 1048576: true; the input reads as it did. -/
def recordLimitsUptoRow : OpenClaim := { program := "ytfhddeghmlnobaa", sum := "28a83fe51a3f1c068c450806d2dfeb2c081507a1388933f70f59f5f175d09c15", func := "conduit/conduitlaw2.RecordLimits", spec := "recordLimits", inPlace := ["internal/abi.NoEscape", "internal/bytealg.MakeNoZero", "internal/reflectlite.TypeOf"], unfollowed := true, recurses := true, apart := false, narrowed := true }
def RecordLimitsUptoSaid : Prop := recordLimitsUptoRow.holds Try.pinned (OpenSpec.upto recordLimitsSpec)

/-- 'conduitlaw2.RecordJunk', WHERE WHAT IT READS IS OF BULK AT MOST 1048576: true; the input reads as it did. -/
def recordJunkUptoRow : OpenClaim := { program := "ytfhddeghmlnobaa", sum := "28a83fe51a3f1c068c450806d2dfeb2c081507a1388933f70f59f5f175d09c15", func := "conduit/conduitlaw2.RecordJunk", spec := "recordJunk", inPlace := ["internal/abi.NoEscape", "internal/bytealg.MakeNoZero", "internal/reflectlite.TypeOf"], unfollowed := true, recurses := true, apart := false, narrowed := true }
def RecordJunkUptoSaid : Prop := recordJunkUptoRow.holds Try.pinned (OpenSpec.upto recordJunkSpec)

/-- 'conduitlaw4.KindBack', WHERE WHAT IT READS IS OF BULK AT MOST 1048576: true; the input reads as it did. -/
def kindBackUptoRow : OpenClaim := { program := "ytfhddeghmlnobaa", sum := "28a83fe51a3f1c068c450806d2dfeb2c081507a1388933f70f59f5f175d09c15", func := "conduit/conduitlaw4.KindBack", spec := "kindBack", inPlace := ["internal/abi.NoEscape", "internal/bytealg.MakeNoZero", "internal/reflectlite.TypeOf"], unfollowed := true, recurses := true, apart := false, narrowed := true }
def KindBackUptoSaid : Prop := kindBackUptoRow.holds Try.pinned (OpenSpec.upto kindBackSpec)

/-- 'conduitlaw4.KindNames', WHERE WHAT IT READS IS OF BULK AT MOST 1048576: true; the input reads as it did. -/
def kindNamesUptoRow : OpenClaim := { program := "ytfhddeghmlnobaa", sum := "28a83fe51a3f1c068c450806d2dfeb2c081507a1388933f70f59f5f175d09c15", func := "conduit/conduitlaw4.KindNames", spec := "kindNames", inPlace := ["internal/abi.NoEscape", "internal/bytealg.MakeNoZero", "internal/reflectlite.TypeOf"], unfollowed := true, recurses := true, apart := false, narrowed := true }
def KindNamesUptoSaid : Prop := kindNamesUptoRow.holds Try.pinned (OpenSpec.upto kindNamesSpec)

end Rows
end Go.Proofs.Ytfhddeghmlnobaa
