/- errors.Is at errors that are numbers of api.Errno: nil is none of them, and a number is itself alone. Condition: the numbers are written as the model writes them. -/
import Derived.Test.YtihfibelklhkbaaBase
import Derived.LaidEql
import Derived.Stop.Asserts
import Derived.RowKitTokens
namespace Go
section
variable {P : Program} (w : World)
theorem run_equalIn_iface_int (d : Nat) {ti tn : TypeId} {ms : Array (String × TypeId)} {i : TypeInfo} {k : IntKind} (a b : Int)
    (hi : P.underlying ti = some (.interface ms)) (hn : P.underlying tn = some (.int k)) (hinfo : P.info? tn = some i) (hcomp : i.comparable = true) :
    (Op.equalIn (d + 2) ti (.iface tn (.int k a)) (.iface tn (.int k b))).run P w = .ok (a == b) w := by
  simp [Op.equalIn, run_underlying hi, run_underlying hn, typeInfo, hinfo, hcomp]
theorem run_eql_iface_int {ti tn : TypeId} {ms : Array (String × TypeId)} {i : TypeInfo} {k : IntKind} (a b : Int)
    (hi : P.underlying ti = some (.interface ms)) (hn : P.underlying tn = some (.int k)) (hinfo : P.info? tn = some i) (hcomp : i.comparable = true) :
    (binOp .eql ti (.iface tn (.int k a)) (.iface tn (.int k b))).run P w = .ok (.bool (a == b)) w := by
  simp only [binOp]
  simp [Op.equal, Op.maxDepth, run_equalIn_iface_int w 9998 a b hi hn hinfo hcomp]
end
end Go
namespace Go.Proofs.Ytihfibelklhkbaa
open Go.RowKit Go.Extern.Stop Go.Stop Go.Extern

/-- The error of a number; 0: none. -/
abbrev eV (n : Int) : Value := .iface 38 (.int .i64 n)

theorem err_comp : (Try.prog.info? 38).map (·.comparable) = some true := by kernel_rfl
theorem err_typeOf (v : Value) (w : World) : (Extern.ReflectliteType.typeOf #[.iface 38 v]).run Try.prog w = .ok (.iface 71 (.agg #[.pointer (some ⟨1, 38, none⟩)])) w := by kernel_rfl
theorem err_comparable (w : World) : ((Extern.ReflectliteType.method fun t => do Rtype.noPackHeld "Comparable" t; (fun a => Value.bool a.comparable) <$> typeInfo t) #[.agg #[.pointer (some ⟨1, 38, none⟩)]]).run Try.prog w = .ok (.bool true) w := by kernel_rfl
theorem err_noIs (v : Value) (xT : TypeId) (w : World) : (Instr.typeAssert (.iface 38 v) xT 73 true).run Try.prog w = .ok (.tuple #[.nilIface, .bool false]) w := run_typeAssert_lacksB Try.underlying73 (by kernel_rfl) (by kernel_rfl) v xT w
theorem err_noUnwrap (v : Value) (xT : TypeId) (w : World) : (Instr.typeAssert (.iface 38 v) xT 76 true).run Try.prog w = .ok (.tuple #[.nilIface, .bool false]) w := run_typeAssert_lacksB Try.underlying76 (by kernel_rfl) (by kernel_rfl) v xT w
theorem err_noUnwraps (v : Value) (xT : TypeId) (w : World) : (Instr.typeAssert (.iface 38 v) xT 78 true).run Try.prog w = .ok (.tuple #[.nilIface, .bool false]) w := run_typeAssert_lacksB Try.underlying78 (by kernel_rfl) (by kernel_rfl) v xT w

theorem err_methodComparable (k : Nat) (v : Value) (w : World) : (Go.method (k + 1) 71 v "Comparable").run Try.prog w = .ok (99, v) w := by kernel_rfl

theorem is_nil (t : Int) (w : World) :
    Calls Try.prog 12 #[.nilIface, eV t] w fun e w' => e = .returned (.bool false) ∧ w = w' := by
  have hn := run_eql_iface_nil_left (P := Try.prog) w 38 (.int .i64 t) Try.underlying26
  go_enter Try.func12, Try.ntmps12
  go_wp2
  go_ret
  exact ⟨rfl, rfl⟩

set_option maxRecDepth 100000 in
theorem is_num (n t : Int) (w : World) :
    Calls Try.prog 12 #[eV n, eV t] w fun e w' => e = .returned (.bool (n == t)) ∧ w = w' := by
  obtain ⟨i, hi, hcmp⟩ := Option.map_eq_some_iff.1 err_comp
  have h8 := @run_callFunc_extern Try.prog 22 _ Extern.ReflectliteType.typeOf Try.func22 (by kernel_rfl) (by kernel_rfl) (by kernel_rfl) (by kernel_rfl)
  have h32 := @run_callFunc_extern Try.prog 99 _ (Extern.ReflectliteType.method fun t => do Rtype.noPackHeld "Comparable" t; pure (.bool (← typeInfo t).comparable)) Try.func99 (by kernel_rfl) (by kernel_rfl) (by kernel_rfl) (by kernel_rfl)
  have tT := err_typeOf
  have cT := err_comparable
  have mR := err_methodComparable
  have nE := err_noIs
  have uE := err_noUnwrap
  have vE := err_noUnwraps
  have heq := run_eql_iface_int (P := Try.prog) w n t Try.underlying26 Try.underlying38 hi hcmp
  go_enter Try.func12, Try.ntmps12
  go_wp2
  refine wp_loop_rounds 1 ?_
  rw [rounds_succ]
  go_wp2
  all_goals (go_ret; exact ⟨by simp_all, rfl⟩)
end Go.Proofs.Ytihfibelklhkbaa
