/-
  NARROWER THAN 'FOR EVERY INPUT', by the rows' own cells (each row's printed sentence says how): PairBack: laid · PairLengths: laid · PairLong: laid · PairMany: laid · CutterTells: laid · CutterCuts: laid · CutterStops: laid · CutterLimits: laid · RecordTells: laid · KindTells: laid.
  DERIVED. THE GIVEN ROWS OF THIS SEAT. 10 by the template 'for every input the law returns true; each argument reads behind the call as it read before'; 0 by the template 'total and deterministic' (their statements: YtfhddeghmlnobaaDoorTotals.lean).
  GIVEN WITH THE SEED: the statements are not yours to turn. If you find one false, say at which input.
  Laid BY PROGRAM, IN A SANDBOX (cutbox-rows.mjs): the forced cells as the released guide's own fill.sh prints them over the translation 23036c6e2170cdfe… (all of the seat's roots in one cut). By AI agents, Wed Nov 11 2026. No macro, syntax, notation, axiom, sorry.
-/
import Derived.Test.YtfhddeghmlnobaaDoorChecked
import GoSem.Claim
import GoSem.ClaimJoined
import GoSem.ClaimMapViews
import Derived.JoinedTies
import Derived.KernelRfl
namespace Go.Proofs.YtfhddeghmlnobaaDoor
/- THE CELL 'sum', in the pinned program and in every row, IS THE sha256 OF THE DUMP (.gsa) THAT YtfhddeghmlnobaaDoorProg.lean LOADS. Nothing in Lean hashes anything: it is a label: what it is worth is what the hold of that sum in a sandbox is worth. -/
noncomputable def Tryd.pinned : Pinned := { name := "ytfhddeghmlnobaadoor", sum := "23036c6e2170cdfe155227954c183545b039a79a0f536484a3e6aede3c8a03ac", checked := Tryd.checked }
namespace Rows
def none {H : Type} : Left H := { results := [], args := [] }

/- WHAT THE LISTED PACKAGE-LEVEL VARIABLES READ AS WHEN THE CALL BEGINS. Each datum BY PROGRAM (the guide's laid-datum.mjs) off the statement by which the dump's own 'gosem.cut.vars' lays the variable. In a bare row this is a premise. The card (YtfhddeghmlnobaaDoorCards.lean) ties it to the program's text. -/
def laid_errors_errorType {H : Type} : DataW H := .iface "internal/reflectlite.rtype" (.agg [.ptr (.lit (.string [101, 114, 114, 111, 114]))])

/-- 'conduitlaw3.PairBack': WHATEVER THE INPUT: true; the input reads as it did. -/
def pairBackSpec : ChangeSpec := { name := "pairBack", fn := fun _ => fun
  | [d1, d2, d3] => { results := [.lit (.bool true)], args := [d1, d2, d3] }
  | _ => none }
def pairBackRow : OpenClaim := { program := "ytfhddeghmlnobaadoor", sum := "23036c6e2170cdfe155227954c183545b039a79a0f536484a3e6aede3c8a03ac", func := "conduit/conduitlaw3.PairBack", spec := "pairBack", inPlace := ["internal/reflectlite.ValueOf", "(internal/reflectlite.Value).Type", "(internal/reflectlite.Value).IsNil", "internal/reflectlite.TypeOf", "(internal/reflectlite.Value).Elem", "(internal/reflectlite.Value).Set"], unfollowed := true, recurses := true, named := ["errors.errorType"], apart := false, laid := [("errors.errorType", laid_errors_errorType)] }
def PairBackSaid : Prop := pairBackRow.holds Tryd.pinned (OpenSpec.ofChange pairBackSpec)

/-- ITS FALSE NEIGHBOUR: 'it returns false'. Refute it at one input. -/
def pairBackWrong : ChangeSpec := { name := "pairBack", fn := fun _ => fun
  | [d1, d2, d3] => { results := [.lit (.bool false)], args := [d1, d2, d3] }
  | _ => none }
def PairBackWrongFalsely : Prop := pairBackRow.holds Tryd.pinned (OpenSpec.ofChange pairBackWrong)

/-- 'conduitlaw3.PairLengths': WHATEVER THE INPUT: true; the input reads as it did. -/
def pairLengthsSpec : ChangeSpec := { name := "pairLengths", fn := fun _ => fun
  | [d1, d2] => { results := [.lit (.bool true)], args := [d1, d2] }
  | _ => none }
def pairLengthsRow : OpenClaim := { program := "ytfhddeghmlnobaadoor", sum := "23036c6e2170cdfe155227954c183545b039a79a0f536484a3e6aede3c8a03ac", func := "conduit/conduitlaw3.PairLengths", spec := "pairLengths", inPlace := ["internal/reflectlite.ValueOf", "(internal/reflectlite.Value).Type", "(internal/reflectlite.Value).IsNil", "internal/reflectlite.TypeOf", "(internal/reflectlite.Value).Elem", "(internal/reflectlite.Value).Set"], unfollowed := true, recurses := true, named := ["errors.errorType"], apart := false, laid := [("errors.errorType", laid_errors_errorType)] }
def PairLengthsSaid : Prop := pairLengthsRow.holds Tryd.pinned (OpenSpec.ofChange pairLengthsSpec)

/-- ITS FALSE NEIGHBOUR: 'it returns false'. Refute it at one input. -/
def pairLengthsWrong : ChangeSpec := { name := "pairLengths", fn := fun _ => fun
  | [d1, d2] => { results := [.lit (.bool false)], args := [d1, d2] }
  | _ => none }
def PairLengthsWrongFalsely : Prop := pairLengthsRow.holds Tryd.pinned (OpenSpec.ofChange pairLengthsWrong)

/-- 'conduitlaw3.PairLong': WHATEVER THE INPUT: true; the input reads as it did. -/
def pairLongSpec : ChangeSpec := { name := "pairLong", fn := fun _ => fun
  | [d1, d2] => { results := [.lit (.bool true)], args := [d1, d2] }
  | _ => none }
def pairLongRow : OpenClaim := { program := "ytfhddeghmlnobaadoor", sum := "23036c6e2170cdfe155227954c183545b039a79a0f536484a3e6aede3c8a03ac", func := "conduit/conduitlaw3.PairLong", spec := "pairLong", inPlace := ["internal/reflectlite.ValueOf", "(internal/reflectlite.Value).Type", "(internal/reflectlite.Value).IsNil", "internal/reflectlite.TypeOf", "(internal/reflectlite.Value).Elem", "(internal/reflectlite.Value).Set"], unfollowed := true, recurses := true, named := ["errors.errorType"], apart := false, laid := [("errors.errorType", laid_errors_errorType)] }
def PairLongSaid : Prop := pairLongRow.holds Tryd.pinned (OpenSpec.ofChange pairLongSpec)

/-- ITS FALSE NEIGHBOUR: 'it returns false'. Refute it at one input. -/
def pairLongWrong : ChangeSpec := { name := "pairLong", fn := fun _ => fun
  | [d1, d2] => { results := [.lit (.bool false)], args := [d1, d2] }
  | _ => none }
def PairLongWrongFalsely : Prop := pairLongRow.holds Tryd.pinned (OpenSpec.ofChange pairLongWrong)

/-- 'conduitlaw3.PairMany': WHATEVER THE INPUT: true; the input reads as it did. -/
def pairManySpec : ChangeSpec := { name := "pairMany", fn := fun _ => fun
  | [d] => { results := [.lit (.bool true)], args := [d] }
  | _ => none }
def pairManyRow : OpenClaim := { program := "ytfhddeghmlnobaadoor", sum := "23036c6e2170cdfe155227954c183545b039a79a0f536484a3e6aede3c8a03ac", func := "conduit/conduitlaw3.PairMany", spec := "pairMany", inPlace := ["internal/reflectlite.ValueOf", "(internal/reflectlite.Value).Type", "(internal/reflectlite.Value).IsNil", "internal/reflectlite.TypeOf", "(internal/reflectlite.Value).Elem", "(internal/reflectlite.Value).Set"], unfollowed := true, recurses := true, named := ["errors.errorType"], apart := false, laid := [("errors.errorType", laid_errors_errorType)] }
def PairManySaid : Prop := pairManyRow.holds Tryd.pinned (OpenSpec.ofChange pairManySpec)

/-- ITS FALSE NEIGHBOUR: 'it returns false'. Refute it at one input. -/
def pairManyWrong : ChangeSpec := { name := "pairMany", fn := fun _ => fun
  | [d] => { results := [.lit (.bool false)], args := [d] }
  | _ => none }
def PairManyWrongFalsely : Prop := pairManyRow.holds Tryd.pinned (OpenSpec.ofChange pairManyWrong)

/-- 'conduitlaw5.CutterTells': WHATEVER THE INPUT: true; the input reads as it did. -/
def cutterTellsSpec : ChangeSpec := { name := "cutterTells", fn := fun _ => fun
  | [d1, d2] => { results := [.lit (.bool true)], args := [d1, d2] }
  | _ => none }
def cutterTellsRow : OpenClaim := { program := "ytfhddeghmlnobaadoor", sum := "23036c6e2170cdfe155227954c183545b039a79a0f536484a3e6aede3c8a03ac", func := "conduit/conduitlaw5.CutterTells", spec := "cutterTells", inPlace := ["internal/reflectlite.TypeOf", "internal/reflectlite.ValueOf", "(internal/reflectlite.Value).Type", "(internal/reflectlite.Value).IsNil", "(internal/reflectlite.Value).Elem", "(internal/reflectlite.Value).Set"], unfollowed := true, recurses := true, named := ["errors.errorType"], apart := false, laid := [("errors.errorType", laid_errors_errorType)] }
def CutterTellsSaid : Prop := cutterTellsRow.holds Tryd.pinned (OpenSpec.ofChange cutterTellsSpec)

/-- ITS FALSE NEIGHBOUR: 'it returns false'. Refute it at one input. -/
def cutterTellsWrong : ChangeSpec := { name := "cutterTells", fn := fun _ => fun
  | [d1, d2] => { results := [.lit (.bool false)], args := [d1, d2] }
  | _ => none }
def CutterTellsWrongFalsely : Prop := cutterTellsRow.holds Tryd.pinned (OpenSpec.ofChange cutterTellsWrong)

/-- 'conduitlaw5.CutterCuts': WHATEVER THE INPUT: true; the input reads as it did. -/
def cutterCutsSpec : ChangeSpec := { name := "cutterCuts", fn := fun _ => fun
  | [d1, d2, d3] => { results := [.lit (.bool true)], args := [d1, d2, d3] }
  | _ => none }
def cutterCutsRow : OpenClaim := { program := "ytfhddeghmlnobaadoor", sum := "23036c6e2170cdfe155227954c183545b039a79a0f536484a3e6aede3c8a03ac", func := "conduit/conduitlaw5.CutterCuts", spec := "cutterCuts", inPlace := ["internal/reflectlite.TypeOf", "internal/reflectlite.ValueOf", "(internal/reflectlite.Value).Type", "(internal/reflectlite.Value).IsNil", "(internal/reflectlite.Value).Elem", "(internal/reflectlite.Value).Set"], unfollowed := true, recurses := true, named := ["errors.errorType"], apart := false, laid := [("errors.errorType", laid_errors_errorType)] }
def CutterCutsSaid : Prop := cutterCutsRow.holds Tryd.pinned (OpenSpec.ofChange cutterCutsSpec)

/-- ITS FALSE NEIGHBOUR: 'it returns false'. Refute it at one input. -/
def cutterCutsWrong : ChangeSpec := { name := "cutterCuts", fn := fun _ => fun
  | [d1, d2, d3] => { results := [.lit (.bool false)], args := [d1, d2, d3] }
  | _ => none }
def CutterCutsWrongFalsely : Prop := cutterCutsRow.holds Tryd.pinned (OpenSpec.ofChange cutterCutsWrong)

/-- 'conduitlaw5.CutterStops': WHATEVER THE INPUT: true; the input reads as it did. -/
def cutterStopsSpec : ChangeSpec := { name := "cutterStops", fn := fun _ => fun
  | [d1, d2, d3, d4] => { results := [.lit (.bool true)], args := [d1, d2, d3, d4] }
  | _ => none }
def cutterStopsRow : OpenClaim := { program := "ytfhddeghmlnobaadoor", sum := "23036c6e2170cdfe155227954c183545b039a79a0f536484a3e6aede3c8a03ac", func := "conduit/conduitlaw5.CutterStops", spec := "cutterStops", inPlace := ["internal/reflectlite.TypeOf", "internal/reflectlite.ValueOf", "(internal/reflectlite.Value).Type", "(internal/reflectlite.Value).IsNil", "(internal/reflectlite.Value).Elem", "(internal/reflectlite.Value).Set"], unfollowed := true, recurses := true, named := ["errors.errorType"], apart := false, laid := [("errors.errorType", laid_errors_errorType)] }
def CutterStopsSaid : Prop := cutterStopsRow.holds Tryd.pinned (OpenSpec.ofChange cutterStopsSpec)

/-- ITS FALSE NEIGHBOUR: 'it returns false'. Refute it at one input. -/
def cutterStopsWrong : ChangeSpec := { name := "cutterStops", fn := fun _ => fun
  | [d1, d2, d3, d4] => { results := [.lit (.bool false)], args := [d1, d2, d3, d4] }
  | _ => none }
def CutterStopsWrongFalsely : Prop := cutterStopsRow.holds Tryd.pinned (OpenSpec.ofChange cutterStopsWrong)

/-- 'conduitlaw5.CutterLimits': WHATEVER THE INPUT: true; the input reads as it did. -/
def cutterLimitsSpec : ChangeSpec := { name := "cutterLimits", fn := fun _ => fun
  | [d1, d2] => { results := [.lit (.bool true)], args := [d1, d2] }
  | _ => none }
def cutterLimitsRow : OpenClaim := { program := "ytfhddeghmlnobaadoor", sum := "23036c6e2170cdfe155227954c183545b039a79a0f536484a3e6aede3c8a03ac", func := "conduit/conduitlaw5.CutterLimits", spec := "cutterLimits", inPlace := ["internal/reflectlite.TypeOf", "internal/reflectlite.ValueOf", "(internal/reflectlite.Value).Type", "(internal/reflectlite.Value).IsNil", "(internal/reflectlite.Value).Elem", "(internal/reflectlite.Value).Set"], unfollowed := true, recurses := true, named := ["errors.errorType"], apart := false, laid := [("errors.errorType", laid_errors_errorType)] }
def CutterLimitsSaid : Prop := cutterLimitsRow.holds Tryd.pinned (OpenSpec.ofChange cutterLimitsSpec)

/-- ITS FALSE NEIGHBOUR: 'it returns false'. Refute it at one input. -/
def cutterLimitsWrong : ChangeSpec := { name := "cutterLimits", fn := fun _ => fun
  | [d1, d2] => { results := [.lit (.bool false)], args := [d1, d2] }
  | _ => none }
def CutterLimitsWrongFalsely : Prop := cutterLimitsRow.holds Tryd.pinned (OpenSpec.ofChange cutterLimitsWrong)

/-- 'conduitlaw2.RecordTells': WHATEVER THE INPUT: true; the input reads as it did. -/
def recordTellsSpec : ChangeSpec := { name := "recordTells", fn := fun _ => fun
  | [d1, d2, d3] => { results := [.lit (.bool true)], args := [d1, d2, d3] }
  | _ => none }
def recordTellsRow : OpenClaim := { program := "ytfhddeghmlnobaadoor", sum := "23036c6e2170cdfe155227954c183545b039a79a0f536484a3e6aede3c8a03ac", func := "conduit/conduitlaw2.RecordTells", spec := "recordTells", inPlace := ["internal/abi.NoEscape", "internal/bytealg.MakeNoZero", "internal/reflectlite.TypeOf", "internal/reflectlite.ValueOf", "(internal/reflectlite.Value).Type", "(internal/reflectlite.Value).IsNil", "(internal/reflectlite.Value).Elem", "(internal/reflectlite.Value).Set"], unfollowed := true, recurses := true, named := ["errors.errorType"], apart := false, laid := [("errors.errorType", laid_errors_errorType)] }
def RecordTellsSaid : Prop := recordTellsRow.holds Tryd.pinned (OpenSpec.ofChange recordTellsSpec)

/-- ITS FALSE NEIGHBOUR: 'it returns false'. Refute it at one input. -/
def recordTellsWrong : ChangeSpec := { name := "recordTells", fn := fun _ => fun
  | [d1, d2, d3] => { results := [.lit (.bool false)], args := [d1, d2, d3] }
  | _ => none }
def RecordTellsWrongFalsely : Prop := recordTellsRow.holds Tryd.pinned (OpenSpec.ofChange recordTellsWrong)

/-- 'conduitlaw4.KindTells': WHATEVER THE INPUT: true; the input reads as it did. -/
def kindTellsSpec : ChangeSpec := { name := "kindTells", fn := fun _ => fun
  | [d1, d2, d3, d4, d5] => { results := [.lit (.bool true)], args := [d1, d2, d3, d4, d5] }
  | _ => none }
def kindTellsRow : OpenClaim := { program := "ytfhddeghmlnobaadoor", sum := "23036c6e2170cdfe155227954c183545b039a79a0f536484a3e6aede3c8a03ac", func := "conduit/conduitlaw4.KindTells", spec := "kindTells", inPlace := ["internal/abi.NoEscape", "internal/bytealg.MakeNoZero", "internal/reflectlite.TypeOf", "internal/reflectlite.ValueOf", "(internal/reflectlite.Value).Type", "(internal/reflectlite.Value).IsNil", "(internal/reflectlite.Value).Elem", "(internal/reflectlite.Value).Set"], unfollowed := true, recurses := true, named := ["errors.errorType"], apart := false, laid := [("errors.errorType", laid_errors_errorType)] }
def KindTellsSaid : Prop := kindTellsRow.holds Tryd.pinned (OpenSpec.ofChange kindTellsSpec)

/-- ITS FALSE NEIGHBOUR: 'it returns false'. Refute it at one input. -/
def kindTellsWrong : ChangeSpec := { name := "kindTells", fn := fun _ => fun
  | [d1, d2, d3, d4, d5] => { results := [.lit (.bool false)], args := [d1, d2, d3, d4, d5] }
  | _ => none }
def KindTellsWrongFalsely : Prop := kindTellsRow.holds Tryd.pinned (OpenSpec.ofChange kindTellsWrong)

/- THE SECOND FORM. 'bulk': how many values and letters a reading holds, each counted each time it is reached (what is shared counts as often as it is met; a slice's spare places count too). A statement '..UptoSaid' is the law's where the arguments, and the package variables that the reading takes, are together of bulk at most 1048576: NARROWER than '..Said'. Prove '..Said' where nothing that the law and all that it calls make is longer than what came in: it says more and counts as full. Else prove '..UptoSaid'. A law counts once. -/
mutual
def uptoBulk {H : Type} : DataW H → Nat
  | .lit (.string bytes) => bytes.length + 1
  | .lit _ => 1
  | .nil => 1
  | .ptr d => uptoBulk d + 1
  | .slice elems spare => uptoBulkAll elems + uptoBulkAll spare + 1
  | .agg parts => uptoBulkAll parts + 1
  | .iface _ d => uptoBulk d + 1
  | .map entries => uptoBulkEntries entries + 1
  | .held _ => 1
def uptoBulkAll {H : Type} : List (DataW H) → Nat
  | [] => 0
  | d :: r => uptoBulk d + uptoBulkAll r
def uptoBulkEntries {H : Type} : List (Lit × DataW H) → Nat
  | [] => 0
  | x :: r => uptoBulkEntry x + uptoBulkEntries r
def uptoBulkEntry {H : Type} : Lit × DataW H → Nat
  | (.string bytes, d) => bytes.length + uptoBulk d + 1
  | (_, d) => uptoBulk d + 1
 end
def uptoSmall : (H : Type) → List (DataW H) → Bool := fun _ ds => decide (uptoBulkAll ds ≤ 1048576)
def OpenSpec.upto (s : _root_.Go.ChangeSpec) : _root_.Go.OpenSpec := { _root_.Go.OpenSpec.ofChange s with cond := some uptoSmall }

/-- 'conduitlaw3.PairBack', WHERE WHAT IT READS IS OF BULK AT MOST 1048576: true; the input reads as it did. -/
def pairBackUptoRow : OpenClaim := { program := "ytfhddeghmlnobaadoor", sum := "23036c6e2170cdfe155227954c183545b039a79a0f536484a3e6aede3c8a03ac", func := "conduit/conduitlaw3.PairBack", spec := "pairBack", inPlace := ["internal/reflectlite.ValueOf", "(internal/reflectlite.Value).Type", "(internal/reflectlite.Value).IsNil", "internal/reflectlite.TypeOf", "(internal/reflectlite.Value).Elem", "(internal/reflectlite.Value).Set"], unfollowed := true, recurses := true, named := ["errors.errorType"], apart := false, laid := [("errors.errorType", laid_errors_errorType)], narrowed := true }
def PairBackUptoSaid : Prop := pairBackUptoRow.holds Tryd.pinned (OpenSpec.upto pairBackSpec)

/-- 'conduitlaw3.PairLengths', WHERE WHAT IT READS IS OF BULK AT MOST 1048576: true; the input reads as it did. -/
def pairLengthsUptoRow : OpenClaim := { program := "ytfhddeghmlnobaadoor", sum := "23036c6e2170cdfe155227954c183545b039a79a0f536484a3e6aede3c8a03ac", func := "conduit/conduitlaw3.PairLengths", spec := "pairLengths", inPlace := ["internal/reflectlite.ValueOf", "(internal/reflectlite.Value).Type", "(internal/reflectlite.Value).IsNil", "internal/reflectlite.TypeOf", "(internal/reflectlite.Value).Elem", "(internal/reflectlite.Value).Set"], unfollowed := true, recurses := true, named := ["errors.errorType"], apart := false, laid := [("errors.errorType", laid_errors_errorType)], narrowed := true }
def PairLengthsUptoSaid : Prop := pairLengthsUptoRow.holds Tryd.pinned (OpenSpec.upto pairLengthsSpec)

/-- 'conduitlaw3.PairLong', WHERE WHAT IT READS IS OF BULK AT MOST 1048576: true; the input reads as it did. -/
def pairLongUptoRow : OpenClaim := { program := "ytfhddeghmlnobaadoor", sum := "23036c6e2170cdfe155227954c183545b039a79a0f536484a3e6aede3c8a03ac", func := "conduit/conduitlaw3.PairLong", spec := "pairLong", inPlace := ["internal/reflectlite.ValueOf", "(internal/reflectlite.Value).Type", "(internal/reflectlite.Value).IsNil", "internal/reflectlite.TypeOf", "(internal/reflectlite.Value).Elem", "(internal/reflectlite.Value).Set"], unfollowed := true, recurses := true, named := ["errors.errorType"], apart := false, laid := [("errors.errorType", laid_errors_errorType)], narrowed := true }
def PairLongUptoSaid : Prop := pairLongUptoRow.holds Tryd.pinned (OpenSpec.upto pairLongSpec)

/-- 'conduitlaw3.PairMany', WHERE WHAT IT READS IS OF BULK AT MOST 1048576: true; the input reads as it did. -/
def pairManyUptoRow : OpenClaim := { program := "ytfhddeghmlnobaadoor", sum := "23036c6e2170cdfe155227954c183545b039a79a0f536484a3e6aede3c8a03ac", func := "conduit/conduitlaw3.PairMany", spec := "pairMany", inPlace := ["internal/reflectlite.ValueOf", "(internal/reflectlite.Value).Type", "(internal/reflectlite.Value).IsNil", "internal/reflectlite.TypeOf", "(internal/reflectlite.Value).Elem", "(internal/reflectlite.Value).Set"], unfollowed := true, recurses := true, named := ["errors.errorType"], apart := false, laid := [("errors.errorType", laid_errors_errorType)], narrowed := true }
def PairManyUptoSaid : Prop := pairManyUptoRow.holds Tryd.pinned (OpenSpec.upto pairManySpec)

/-- 'conduitlaw5.CutterTells', WHERE WHAT IT READS IS OF BULK AT MOST 1048576: true; the input reads as it did. -/
def cutterTellsUptoRow : OpenClaim := { program := "ytfhddeghmlnobaadoor", sum := "23036c6e2170cdfe155227954c183545b039a79a0f536484a3e6aede3c8a03ac", func := "conduit/conduitlaw5.CutterTells", spec := "cutterTells", inPlace := ["internal/reflectlite.TypeOf", "internal/reflectlite.ValueOf", "(internal/reflectlite.Value).Type", "(internal/reflectlite.Value).IsNil", "(internal/reflectlite.Value).Elem", "(internal/reflectlite.Value).Set"], unfollowed := true, recurses := true, named := ["errors.errorType"], apart := false, laid := [("errors.errorType", laid_errors_errorType)], narrowed := true }
def CutterTellsUptoSaid : Prop := cutterTellsUptoRow.holds Tryd.pinned (OpenSpec.upto cutterTellsSpec)

/-- 'conduitlaw5.CutterCuts', WHERE WHAT IT READS IS OF BULK AT MOST 1048576: true; the input reads as it did. -/
def cutterCutsUptoRow : OpenClaim := { program := "ytfhddeghmlnobaadoor", sum := "23036c6e2170cdfe155227954c183545b039a79a0f536484a3e6aede3c8a03ac", func := "conduit/conduitlaw5.CutterCuts", spec := "cutterCuts", inPlace := ["internal/reflectlite.TypeOf", "internal/reflectlite.ValueOf", "(internal/reflectlite.Value).Type", "(internal/reflectlite.Value).IsNil", "(internal/reflectlite.Value).Elem", "(internal/reflectlite.Value).Set"], unfollowed := true, recurses := true, named := ["errors.errorType"], apart := false, laid := [("errors.errorType", laid_errors_errorType)], narrowed := true }
def CutterCutsUptoSaid : Prop := cutterCutsUptoRow.holds Tryd.pinned (OpenSpec.upto cutterCutsSpec)

/-- 'conduitlaw5.CutterStops', WHERE WHAT IT READS IS OF BULK AT MOST 1048576: true; the input reads as it did. -/
def cutterStopsUptoRow : OpenClaim := { program := "ytfhddeghmlnobaadoor", sum := "23036c6e2170cdfe155227954c183545b039a79a0f536484a3e6aede3c8a03ac", func := "conduit/conduitlaw5.CutterStops", spec := "cutterStops", inPlace := ["internal/reflectlite.TypeOf", "internal/reflectlite.ValueOf", "(internal/reflectlite.Value).Type", "(internal/reflectlite.Value).IsNil", "(internal/reflectlite.Value).Elem", "(internal/reflectlite.Value).Set"], unfollowed := true, recurses := true, named := ["errors.errorType"], apart := false, laid := [("errors.errorType", laid_errors_errorType)], narrowed := true }
def CutterStopsUptoSaid : Prop := cutterStopsUptoRow.holds Tryd.pinned (OpenSpec.upto cutterStopsSpec)

/-- 'conduitlaw5.CutterLimits', WHERE WHAT IT READS IS OF BULK AT MOST 1048576: true; the input reads as it did. -/
def cutterLimitsUptoRow : OpenClaim := { program := "ytfhddeghmlnobaadoor", sum := "23036c6e2170cdfe155227954c183545b039a79a0f536484a3e6aede3c8a03ac", func := "conduit/conduitlaw5.CutterLimits", spec := "cutterLimits", inPlace := ["internal/reflectlite.TypeOf", "internal/reflectlite.ValueOf", "(internal/reflectlite.Value).Type", "(internal/reflectlite.Value).IsNil", "(internal/reflectlite.Value).Elem", "(internal/reflectlite.Value).Set"], unfollowed := true, recurses := true, named := ["errors.errorType"], apart := false, laid := [("errors.errorType", laid_errors_errorType)], narrowed := true }
def CutterLimitsUptoSaid : Prop := cutterLimitsUptoRow.holds Tryd.pinned (OpenSpec.upto cutterLimitsSpec)

/-- 'conduitlaw2.RecordTells', WHERE WHAT IT READS IS OF BULK AT MOST 1048576: true; the input reads as it did. -/
def recordTellsUptoRow : OpenClaim := { program := "ytfhddeghmlnobaadoor", sum := "23036c6e2170cdfe155227954c183545b039a79a0f536484a3e6aede3c8a03ac", func := "conduit/conduitlaw2.RecordTells", spec := "recordTells", inPlace := ["internal/abi.NoEscape", "internal/bytealg.MakeNoZero", "internal/reflectlite.TypeOf", "internal/reflectlite.ValueOf", "(internal/reflectlite.Value).Type", "(internal/reflectlite.Value).IsNil", "(internal/reflectlite.Value).Elem", "(internal/reflectlite.Value).Set"], unfollowed := true, recurses := true, named := ["errors.errorType"], apart := false, laid := [("errors.errorType", laid_errors_errorType)], narrowed := true }
def RecordTellsUptoSaid : Prop := recordTellsUptoRow.holds Tryd.pinned (OpenSpec.upto recordTellsSpec)

/-- 'conduitlaw4.KindTells', WHERE WHAT IT READS IS OF BULK AT MOST 1048576: true; the input reads as it did. -/
def kindTellsUptoRow : OpenClaim := { program := "ytfhddeghmlnobaadoor", sum := "23036c6e2170cdfe155227954c183545b039a79a0f536484a3e6aede3c8a03ac", func := "conduit/conduitlaw4.KindTells", spec := "kindTells", inPlace := ["internal/abi.NoEscape", "internal/bytealg.MakeNoZero", "internal/reflectlite.TypeOf", "internal/reflectlite.ValueOf", "(internal/reflectlite.Value).Type", "(internal/reflectlite.Value).IsNil", "(internal/reflectlite.Value).Elem", "(internal/reflectlite.Value).Set"], unfollowed := true, recurses := true, named := ["errors.errorType"], apart := false, laid := [("errors.errorType", laid_errors_errorType)], narrowed := true }
def KindTellsUptoSaid : Prop := kindTellsUptoRow.holds Tryd.pinned (OpenSpec.upto kindTellsSpec)

end Rows
end Go.Proofs.YtfhddeghmlnobaaDoor
