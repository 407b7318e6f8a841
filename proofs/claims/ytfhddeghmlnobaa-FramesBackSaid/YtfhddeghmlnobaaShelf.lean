/- Contracts of Go's library at this program, laid by the kit's shelf in its plain mode: strings_Repeat. -/
import Derived.Shelf.Strings.Repeat
import Derived.Test.YtfhddeghmlnobaaProg
namespace Go.Proofs
open Go.Shelf
def Try.lays105_ren : Go.Shelf.Ren := ⟨fun | 105 => 43 | 212 => 52 | 99 => 53 | 165 => 54 | 166 => 55 | 170 => 56 | 169 => 57 | 263 => 58 | 264 => 59 | 206 => 60 | 240 => 61 | 241 => 62 | 276 => 63 | 277 => 64 | n => n, fun | 9 => 9 | 3 => 3 | 4 => 4 | 20 => 20 | 0 => 0 | 46 => 80 | 109 => 83 | 5 => 5 | 72 => 88 | 76 => 73 | 51 => 54 | 146 => 103 | 53 => 105 | 148 => 106 | 70 => 86 | 37 => 41 | 75 => 45 | 127 => 108 | 164 => 109 | 80 => 91 | n => n, fun | n => n⟩
theorem Try.lays105 : Go.Proofs.Lays.n105 Try.prog Try.lays105_ren := {
  mixed := by kernel_rfl
  f99 := Try.func53.trans (congrArg some (by kernel_rfl))
  f105 := Try.func43.trans (congrArg some (by kernel_rfl))
  f165 := Try.func54.trans (congrArg some (by kernel_rfl))
  f166 := Try.func55.trans (congrArg some (by kernel_rfl))
  f169 := Try.func57.trans (congrArg some (by kernel_rfl))
  f170 := Try.func56.trans (congrArg some (by kernel_rfl))
  f206 := Try.func60.trans (congrArg some (by kernel_rfl))
  f212 := Try.func52.trans (congrArg some (by kernel_rfl))
  f240 := Try.func61.trans (congrArg some (by kernel_rfl))
  f241 := Try.func62.trans (congrArg some (by kernel_rfl))
  f263 := Try.func58.trans (congrArg some (by kernel_rfl))
  f264 := Try.func59.trans (congrArg some (by kernel_rfl))
  f276 := Try.func63.trans (congrArg some (by kernel_rfl))
  f277 := Try.func64.trans (congrArg some (by kernel_rfl))
  t0 := Try.underlying0
  a0 := Try.isAgg0
  z0 := Try.sizeOf0
  v0 := Try.zeroValue0
  t3 := Try.underlying3
  a3 := Try.isAgg3
  z3 := Try.sizeOf3
  v3 := Try.zeroValue3
  t4 := Try.underlying4
  a4 := Try.isAgg4
  z4 := Try.sizeOf4
  v4 := Try.zeroValue4
  t5 := Try.underlying5
  a5 := Try.isAgg5
  z5 := Try.sizeOf5
  v5 := Try.zeroValue5
  t9 := Try.underlying9
  a9 := Try.isAgg9
  z9 := Try.sizeOf9
  v9 := Try.zeroValue9
  t20 := Try.underlying20
  a20 := Try.isAgg20
  z20 := Try.sizeOf20
  v20 := Try.zeroValue20
  t37 := Try.underlying41
  a37 := Try.isAgg41
  z37 := Try.sizeOf41
  v37 := Try.zeroValue41
  t46 := Try.underlying80
  a46 := Try.isAgg80
  z46 := Try.sizeOf80
  v46 := Try.zeroValue80
  t51 := Try.underlying54
  a51 := Try.isAgg54
  z51 := Try.sizeOf54
  v51 := Try.zeroValue54
  t53 := Try.underlying105
  a53 := Try.isAgg105
  z53 := Try.sizeOf105
  v53 := Try.zeroValue105
  t70 := Try.underlying86
  a70 := Try.isAgg86
  z70 := Try.sizeOf86
  v70 := Try.zeroValue86
  t72 := Try.underlying88
  a72 := Try.isAgg88
  z72 := Try.sizeOf88
  v72 := Try.zeroValue88
  t75 := Try.underlying45
  a75 := Try.isAgg45
  z75 := Try.sizeOf45
  v75 := Try.zeroValue45
  t76 := Try.underlying73
  a76 := Try.isAgg73
  z76 := Try.sizeOf73
  v76 := Try.zeroValue73
  t109 := Try.underlying83
  a109 := Try.isAgg83
  z109 := Try.sizeOf83
  v109 := Try.zeroValue83
  t127 := Try.underlying108
  a127 := Try.isAgg108
  z127 := Try.sizeOf108
  v127 := Try.zeroValue108
  t146 := Try.underlying103
  a146 := Try.isAgg103
  z146 := Try.sizeOf103
  v146 := Try.zeroValue103
  t148 := Try.underlying106
  a148 := Try.isAgg106
  z148 := Try.sizeOf106
  v148 := Try.zeroValue106
  t164 := Try.underlying109
  a164 := Try.isAgg109
  z164 := Try.sizeOf109
  v164 := Try.zeroValue109 }
theorem Try.Builder_Extra_105 : Builder.Extra Try.prog Try.lays105_ren := {
  sizeBuilder := by kernel_rfl
  liesBuilder := by kernel_rfl
  t5 := Try.underlying5
  a5 := Try.isAgg5
  z5 := Try.sizeOf5
  v5 := Try.zeroValue5
  infoByte := by kernel_rfl
  cellsByte := by kernel_rfl
  sizeByte := by kernel_rfl
  neB5 := by decide }
open Go.RowKit Go.Lib in
/-- **strings.Repeat: count ≥ 0, the result within one allocation: count copies of s.** (LAID: no walk: one application.) -/
theorem Try.strings_Repeat (s : ByteArray) (c : Nat) (w : World) (hc : c ≤ 9223372036854775807) (hlen : s.size * c ≤ 140737488355328) :
    Calls Try.prog 43 #[.string s, .int .i64 c] w fun e w' => e = .returned (.string ⟨(Lib.repeatL s.data.toList c).toArray⟩) ∧ Below w.heap.size w w' := Any.strings_Repeat Try.lays105 Try.Builder_Extra_105 s c w hc hlen
end Go.Proofs
