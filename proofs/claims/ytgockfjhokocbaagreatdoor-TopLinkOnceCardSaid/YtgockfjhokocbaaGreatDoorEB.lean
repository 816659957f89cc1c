/-
  PROVED: errors.Is of a *api.Fault at ErrShort.
-/
import Derived.Test.YtgockfjhokocbaaGreatDoorSD
import Derived.LaidEql
import Derived.Stop.Asserts
import Derived.RowKitTokens
namespace Go.Proofs.YtgockfjhokocbaaGreatDoor
open Go.RowKit Go.Extern.Stop Go.Stop Go.Extern


/-! ### errors.Is -/
theorem Tryz.isTypeOf (v : Value) (w : World) : (Extern.ReflectliteType.typeOf #[.iface 41 v]).run Tryz.prog w = .ok (.iface 163 (.agg #[.pointer (some ⟨4, 41, none⟩)])) w := by kernel_rfl
noncomputable def cmpF : Array Value → Sem Value := Extern.ReflectliteType.method fun t => do Rtype.noPackHeld "Comparable" t; pure (.bool (← typeInfo t).comparable)
theorem Tryz.isComparable (w : World) : (cmpF #[.agg #[.pointer (some ⟨4, 41, none⟩)]]).run Tryz.prog w = .ok (.bool true) w := by kernel_rfl
theorem Tryz.isMethodComparable (v : Value) (w : World) : (Go.method 308 163 v "Comparable").run Tryz.prog w = .ok (127, v) w := by kernel_rfl
theorem Tryz.noIsF (v : Value) (xT : TypeId) (w : World) : (Instr.typeAssert (.iface 107 v) xT 175 true).run Tryz.prog w = .ok (.tuple #[.nilIface, .bool false]) w := run_typeAssert_lacksB Tryz.underlying175 (by kernel_rfl) (by kernel_rfl) v xT w
theorem Tryz.hasUnwrapF (v : Value) (xT : TypeId) (w : World) : (Instr.typeAssert (.iface 107 v) xT 170 true).run Tryz.prog w = .ok (.tuple #[.iface 107 v, .bool true]) w := run_typeAssert_hasB Tryz.underlying170 (by kernel_rfl) v xT w
theorem Tryz.methodUnwrap (v : Value) (w : World) : (Go.method 308 107 v "Unwrap").run Tryz.prog w = .ok (121, v) w := by kernel_rfl
theorem Tryz.noIsE (v : Value) (xT : TypeId) (w : World) : (Instr.typeAssert (.iface 41 v) xT 175 true).run Tryz.prog w = .ok (.tuple #[.nilIface, .bool false]) w := run_typeAssert_lacksB Tryz.underlying175 (by kernel_rfl) (by kernel_rfl) v xT w
theorem Tryz.noUnwrapE (v : Value) (xT : TypeId) (w : World) : (Instr.typeAssert (.iface 41 v) xT 170 true).run Tryz.prog w = .ok (.tuple #[.nilIface, .bool false]) w := run_typeAssert_lacksB Tryz.underlying170 (by kernel_rfl) (by kernel_rfl) v xT w
theorem Tryz.noUnwrapsE (v : Value) (xT : TypeId) (w : World) : (Instr.typeAssert (.iface 41 v) xT 172 true).run Tryz.prog w = .ok (.tuple #[.nilIface, .bool false]) w := run_typeAssert_lacksB Tryz.underlying172 (by kernel_rfl) (by kernel_rfl) v xT w

theorem Tryz.sumShort (w : World) : (binOp .eql 61 (.iface 41 (.int .i64 11)) (.iface 41 (.int .i64 10))).run Tryz.prog w = .ok (.bool false) w := by kernel_rfl

set_option maxRecDepth 100000 in
set_option maxHeartbeats 4000000 in
/-- errors.Is of a Fault that holds ErrSum: it is not ErrShort. -/
theorem is_sum (f : Nat) (w : World) (h1 : w.cell? ⟨f, 1, none⟩ = some (.iface 41 (.int .i64 11))) :
    Calls Tryz.prog 73 #[.iface 107 (.pointer (some ⟨f, 0, none⟩)), .iface 41 (.int .i64 10)] w fun e w' => e = .returned (.bool false) ∧ w' = w := by
  have h8 := @run_callFunc_extern Tryz.prog 90 _ Extern.ReflectliteType.typeOf Tryz.func90 (by kernel_rfl) (by kernel_rfl) (by kernel_rfl) (by kernel_rfl)
  have h32 := @run_callFunc_extern Tryz.prog 127 _ cmpF Tryz.func127 (by kernel_rfl) (by kernel_rfl) (by kernel_rfl) (by kernel_rfl)
  have tT := Tryz.isTypeOf
  have cT := Tryz.isComparable
  have mR := Tryz.isMethodComparable
  have nF := Tryz.noIsF
  have uF := Tryz.hasUnwrapF
  have mU := Tryz.methodUnwrap
  have nE := Tryz.noIsE
  have qE := Tryz.sumShort
  have uE := Tryz.noUnwrapE
  have vE := Tryz.noUnwrapsE
  have hty := run_eql_iface_types (P := Tryz.prog) 107 41 (.pointer (some ⟨f, 0, none⟩)) (.int .i64 10) Tryz.underlying61 (by decide) w
  go_enter Tryz.func73, Tryz.ntmps73
  go_wp2
  refine wp_loop_rounds 2 ?_
  rw [rounds_succ]
  go_wp2
  rw [rounds_succ]
  go_wp2
  go_ret
  exact ⟨rfl, rfl⟩
end Go.Proofs.YtgockfjhokocbaaGreatDoor
