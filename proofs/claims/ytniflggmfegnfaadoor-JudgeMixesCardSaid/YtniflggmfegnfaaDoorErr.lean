/- errors.Is at errors that are numbers of api.Errno: nil is none of them, and a number is itself alone. Condition: the numbers are written as the model writes them. -/
import Derived.Test.YtniflggmfegnfaaDoorBase
import Derived.LaidEql
import Derived.Stop.Asserts
import Derived.RowKitTokens
namespace Go
section
variable {P : Program} (w : World)
theorem run_equalIn_iface_int (d : Nat) {ti tn : TypeId} {ms : Array (String × TypeId)} {i : TypeInfo} {k : IntKind} (a b : Int)
    (hi : P.underlying ti = some (.interface ms)) (hn : P.underlying tn = some (.int k)) (hinfo : P.info? tn = some i) (hcomp : i.comparable = true) :
    (Op.equalIn (d + 2) ti (.iface tn (.int k a)) (.iface tn (.int k b))).run P w = .ok (a == b) w := by
  simp [Op.equalIn, run_underlying hi, run_underlying hn, typeInfo, hinfo, hcomp]
theorem run_eql_iface_int {ti tn : TypeId} {ms : Array (String × TypeId)} {i : TypeInfo} {k : IntKind} (a b : Int)
    (hi : P.underlying ti = some (.interface ms)) (hn : P.underlying tn = some (.int k)) (hinfo : P.info? tn = some i) (hcomp : i.comparable = true) :
    (binOp .eql ti (.iface tn (.int k a)) (.iface tn (.int k b))).run P w = .ok (.bool (a == b)) w := by
  simp only [binOp]
  simp [Op.equal, Op.maxDepth, run_equalIn_iface_int w 9998 a b hi hn hinfo hcomp]
end
end Go
namespace Go.Proofs.YtniflggmfegnfaaDoor
open Go.RowKit Go.Extern.Stop Go.Stop Go.Extern

/-- The error of a number; 0: none. -/
abbrev eV (n : Int) : Value := .iface 46 (.int .i64 n)

theorem err_comp : (Tryd.prog.info? 46).map (·.comparable) = some true := by kernel_rfl
theorem err_typeOf (v : Value) (w : World) : (Extern.ReflectliteType.typeOf #[.iface 46 v]).run Tryd.prog w = .ok (.iface 78 (.agg #[.pointer (some ⟨2, 46, none⟩)])) w := by kernel_rfl
theorem err_comparable (w : World) : ((Extern.ReflectliteType.method fun t => do Rtype.noPackHeld "Comparable" t; (fun a => Value.bool a.comparable) <$> typeInfo t) #[.agg #[.pointer (some ⟨2, 46, none⟩)]]).run Tryd.prog w = .ok (.bool true) w := by kernel_rfl
theorem err_noIs (v : Value) (xT : TypeId) (w : World) : (Instr.typeAssert (.iface 46 v) xT 80 true).run Tryd.prog w = .ok (.tuple #[.nilIface, .bool false]) w := run_typeAssert_lacksB Tryd.underlying80 (by kernel_rfl) (by kernel_rfl) v xT w
theorem err_noUnwrap (v : Value) (xT : TypeId) (w : World) : (Instr.typeAssert (.iface 46 v) xT 83 true).run Tryd.prog w = .ok (.tuple #[.nilIface, .bool false]) w := run_typeAssert_lacksB Tryd.underlying83 (by kernel_rfl) (by kernel_rfl) v xT w
theorem err_noUnwraps (v : Value) (xT : TypeId) (w : World) : (Instr.typeAssert (.iface 46 v) xT 85 true).run Tryd.prog w = .ok (.tuple #[.nilIface, .bool false]) w := run_typeAssert_lacksB Tryd.underlying85 (by kernel_rfl) (by kernel_rfl) v xT w

theorem err_methodComparable (k : Nat) (v : Value) (w : World) : (Go.method (k + 1) 78 v "Comparable").run Tryd.prog w = .ok (81, v) w := by kernel_rfl

theorem is_nil (t : Int) (w : World) :
    Calls Tryd.prog 11 #[.nilIface, eV t] w fun e w' => e = .returned (.bool false) ∧ w = w' := by
  have hn := run_eql_iface_nil_left (P := Tryd.prog) w 46 (.int .i64 t) Tryd.underlying36
  go_enter Tryd.func11, Tryd.ntmps11
  go_wp2
  go_ret
  exact ⟨rfl, rfl⟩

set_option maxRecDepth 100000 in
theorem is_num (n t : Int) (w : World) :
    Calls Tryd.prog 11 #[eV n, eV t] w fun e w' => e = .returned (.bool (n == t)) ∧ w = w' := by
  obtain ⟨i, hi, hcmp⟩ := Option.map_eq_some_iff.1 err_comp
  have h8 := @run_callFunc_extern Tryd.prog 19 _ Extern.ReflectliteType.typeOf Tryd.func19 (by kernel_rfl) (by kernel_rfl) (by kernel_rfl) (by kernel_rfl)
  have h32 := @run_callFunc_extern Tryd.prog 81 _ (Extern.ReflectliteType.method fun t => do Rtype.noPackHeld "Comparable" t; pure (.bool (← typeInfo t).comparable)) Tryd.func81 (by kernel_rfl) (by kernel_rfl) (by kernel_rfl) (by kernel_rfl)
  have tT := err_typeOf
  have cT := err_comparable
  have mR := err_methodComparable
  have nE := err_noIs
  have uE := err_noUnwrap
  have vE := err_noUnwraps
  have heq := run_eql_iface_int (P := Tryd.prog) w n t Tryd.underlying36 Tryd.underlying46 hi hcmp
  go_enter Tryd.func11, Tryd.ntmps11
  go_wp2
  refine wp_loop_rounds 1 ?_
  rw [rounds_succ]
  go_wp2
  all_goals (go_ret; exact ⟨by simp_all, rfl⟩)
end Go.Proofs.YtniflggmfegnfaaDoor
