/- Contracts of Go's library at this program, laid by the kit's shelf in its plain mode: strings_Repeat. -/
import Derived.Shelf.Strings.Repeat
import Derived.Test.YtfhddeghmlnobaaDoorProg
namespace Go.Proofs
open Go.Shelf
def Tryd.lays105_ren : Go.Shelf.Ren := ⟨fun | 105 => 60 | 212 => 68 | 99 => 69 | 165 => 70 | 166 => 71 | 170 => 72 | 169 => 73 | 263 => 76 | 264 => 77 | 206 => 78 | 240 => 79 | 241 => 80 | 276 => 81 | 277 => 82 | n => n, fun | 9 => 9 | 3 => 3 | 4 => 4 | 20 => 20 | 0 => 0 | 46 => 93 | 109 => 129 | 5 => 5 | 72 => 134 | 76 => 98 | 51 => 70 | 146 => 142 | 53 => 144 | 148 => 145 | 70 => 132 | 37 => 36 | 75 => 29 | 127 => 147 | 164 => 108 | 80 => 136 | n => n, fun | n => n⟩
theorem Tryd.lays105 : Go.Proofs.Lays.n105 Tryd.prog Tryd.lays105_ren := {
  mixed := by kernel_rfl
  f99 := Tryd.func69.trans (congrArg some (by kernel_rfl))
  f105 := Tryd.func60.trans (congrArg some (by kernel_rfl))
  f165 := Tryd.func70.trans (congrArg some (by kernel_rfl))
  f166 := Tryd.func71.trans (congrArg some (by kernel_rfl))
  f169 := Tryd.func73.trans (congrArg some (by kernel_rfl))
  f170 := Tryd.func72.trans (congrArg some (by kernel_rfl))
  f206 := Tryd.func78.trans (congrArg some (by kernel_rfl))
  f212 := Tryd.func68.trans (congrArg some (by kernel_rfl))
  f240 := Tryd.func79.trans (congrArg some (by kernel_rfl))
  f241 := Tryd.func80.trans (congrArg some (by kernel_rfl))
  f263 := Tryd.func76.trans (congrArg some (by kernel_rfl))
  f264 := Tryd.func77.trans (congrArg some (by kernel_rfl))
  f276 := Tryd.func81.trans (congrArg some (by kernel_rfl))
  f277 := Tryd.func82.trans (congrArg some (by kernel_rfl))
  t0 := Tryd.underlying0
  a0 := Tryd.isAgg0
  z0 := Tryd.sizeOf0
  v0 := Tryd.zeroValue0
  t3 := Tryd.underlying3
  a3 := Tryd.isAgg3
  z3 := Tryd.sizeOf3
  v3 := Tryd.zeroValue3
  t4 := Tryd.underlying4
  a4 := Tryd.isAgg4
  z4 := Tryd.sizeOf4
  v4 := Tryd.zeroValue4
  t5 := Tryd.underlying5
  a5 := Tryd.isAgg5
  z5 := Tryd.sizeOf5
  v5 := Tryd.zeroValue5
  t9 := Tryd.underlying9
  a9 := Tryd.isAgg9
  z9 := Tryd.sizeOf9
  v9 := Tryd.zeroValue9
  t20 := Tryd.underlying20
  a20 := Tryd.isAgg20
  z20 := Tryd.sizeOf20
  v20 := Tryd.zeroValue20
  t37 := Tryd.underlying36
  a37 := Tryd.isAgg36
  z37 := Tryd.sizeOf36
  v37 := Tryd.zeroValue36
  t46 := Tryd.underlying93
  a46 := Tryd.isAgg93
  z46 := Tryd.sizeOf93
  v46 := Tryd.zeroValue93
  t51 := Tryd.underlying70
  a51 := Tryd.isAgg70
  z51 := Tryd.sizeOf70
  v51 := Tryd.zeroValue70
  t53 := Tryd.underlying144
  a53 := Tryd.isAgg144
  z53 := Tryd.sizeOf144
  v53 := Tryd.zeroValue144
  t70 := Tryd.underlying132
  a70 := Tryd.isAgg132
  z70 := Tryd.sizeOf132
  v70 := Tryd.zeroValue132
  t72 := Tryd.underlying134
  a72 := Tryd.isAgg134
  z72 := Tryd.sizeOf134
  v72 := Tryd.zeroValue134
  t75 := Tryd.underlying29
  a75 := Tryd.isAgg29
  z75 := Tryd.sizeOf29
  v75 := Tryd.zeroValue29
  t76 := Tryd.underlying98
  a76 := Tryd.isAgg98
  z76 := Tryd.sizeOf98
  v76 := Tryd.zeroValue98
  t109 := Tryd.underlying129
  a109 := Tryd.isAgg129
  z109 := Tryd.sizeOf129
  v109 := Tryd.zeroValue129
  t127 := Tryd.underlying147
  a127 := Tryd.isAgg147
  z127 := Tryd.sizeOf147
  v127 := Tryd.zeroValue147
  t146 := Tryd.underlying142
  a146 := Tryd.isAgg142
  z146 := Tryd.sizeOf142
  v146 := Tryd.zeroValue142
  t148 := Tryd.underlying145
  a148 := Tryd.isAgg145
  z148 := Tryd.sizeOf145
  v148 := Tryd.zeroValue145
  t164 := Tryd.underlying108
  a164 := Tryd.isAgg108
  z164 := Tryd.sizeOf108
  v164 := Tryd.zeroValue108 }
theorem Tryd.Builder_Extra_105 : Builder.Extra Tryd.prog Tryd.lays105_ren := {
  sizeBuilder := by kernel_rfl
  liesBuilder := by kernel_rfl
  t5 := Tryd.underlying5
  a5 := Tryd.isAgg5
  z5 := Tryd.sizeOf5
  v5 := Tryd.zeroValue5
  infoByte := by kernel_rfl
  cellsByte := by kernel_rfl
  sizeByte := by kernel_rfl
  neB5 := by decide }
open Go.RowKit Go.Lib in
/-- **strings.Repeat: count ≥ 0, the result within one allocation: count copies of s.** (LAID: no walk: one application.) -/
theorem Tryd.strings_Repeat (s : ByteArray) (c : Nat) (w : World) (hc : c ≤ 9223372036854775807) (hlen : s.size * c ≤ 140737488355328) :
    Calls Tryd.prog 60 #[.string s, .int .i64 c] w fun e w' => e = .returned (.string ⟨(Lib.repeatL s.data.toList c).toArray⟩) ∧ Below w.heap.size w w' := Any.strings_Repeat Tryd.lays105 Tryd.Builder_Extra_105 s c w hc hlen
end Go.Proofs
