/-
  errors.As at the two concrete targets of this program (**api.Fault, *api.Errno) and at its errors (api.Errno, *api.Fault). After the kit's worked example ToyasAs, turned to these types. Own work else.
-/
import Derived.Test.YtfhdcjfkngflbaaGreatDoorProg
import Derived.WalkKit
import Derived.LaidEql
import Derived.Stop.Asserts
import Derived.RowKitTokens
import Derived.KernelRfl
set_option linter.unusedSimpArgs false
set_option linter.unusedVariables false
namespace Go.Proofs.YtfhdcjfkngflbaaGreatDoor
open Go.RowKit Go.Extern.Stop Go.Stop Go.Extern

theorem as_nil (t : Value) (w : World) :
    Calls Tryz.prog 47 #[.nilIface, t] w fun e w' => e = .returned (.bool false) ∧ w' = w := by
  go_enter Tryz.func47, Tryz.ntmps47
  go_wp2
  go_ret
  exact ⟨rfl, rfl⟩

abbrev hnd (t : Nat) : Value := .agg #[.pointer (some ⟨1, t, none⟩)]

theorem ea_valueOfPF (t : Addr) (w : World) : (ReflectliteValue.unpack (.iface 103 (.pointer (some t)))).run Tryz.prog w
    = .ok (.agg #[.pointer (some ⟨1, 103, none⟩), .pointer (some ⟨w.heap.size, 0, none⟩), .int .u64 150]) (w.alloc (.cells #[.pointer (some t)] 103)) := by kernel_rfl
theorem ea_valueOfPE (t : Addr) (w : World) : (ReflectliteValue.unpack (.iface 106 (.pointer (some t)))).run Tryz.prog w
    = .ok (.agg #[.pointer (some ⟨1, 106, none⟩), .pointer (some ⟨w.heap.size, 0, none⟩), .int .u64 150]) (w.alloc (.cells #[.pointer (some t)] 106)) := by kernel_rfl
theorem ea_typePF (a : Addr) (w : World) : (ReflectliteValue.methodAny (ReflectliteValue.valueError "reflectlite.Value.Type" 0) (fun t _ _ _ => ReflectliteType.toType t) #[.agg #[.pointer (some ⟨1, 103, none⟩), .pointer (some a), .int .u64 150]]).run Tryz.prog w
    = .ok (.iface 141 (hnd 103)) w := by kernel_rfl
theorem ea_typePE (a : Addr) (w : World) : (ReflectliteValue.methodAny (ReflectliteValue.valueError "reflectlite.Value.Type" 0) (fun t _ _ _ => ReflectliteType.toType t) #[.agg #[.pointer (some ⟨1, 106, none⟩), .pointer (some a), .int .u64 150]]).run Tryz.prog w
    = .ok (.iface 141 (hnd 106)) w := by kernel_rfl
theorem ea_methodKind (h : Value) (w : World) : (Go.method 293 141 (.agg #[h]) "Kind").run Tryz.prog w = .ok (104, h) w := by kernel_rfl
theorem ea_methodElem (h : Value) (w : World) : (Go.method 293 141 (.agg #[h]) "Elem").run Tryz.prog w = .ok (116, .agg #[h]) w := by kernel_rfl
theorem ea_methodImplements (h : Value) (w : World) : (Go.method 293 141 (.agg #[h]) "Implements").run Tryz.prog w = .ok (117, .agg #[h]) w := by kernel_rfl
theorem ea_methodAssignableTo (h : Value) (w : World) : (Go.method 293 141 (.agg #[h]) "AssignableTo").run Tryz.prog w = .ok (114, .agg #[h]) w := by kernel_rfl
theorem ea_kindPF (w : World) : ((ReflectliteType.abiMethod fun t => (fun a : Nat => Value.int IntKind.u8 (a : Int)) <$> Rtype.kind t) #[.pointer (some ⟨1, 103, none⟩)]).run Tryz.prog w = .ok (.int .u8 22) w := by kernel_rfl
theorem ea_kindPE (w : World) : ((ReflectliteType.abiMethod fun t => (fun a : Nat => Value.int IntKind.u8 (a : Int)) <$> Rtype.kind t) #[.pointer (some ⟨1, 106, none⟩)]).run Tryz.prog w = .ok (.int .u8 22) w := by kernel_rfl
theorem ea_kindF (w : World) : ((ReflectliteType.abiMethod fun t => (fun a : Nat => Value.int IntKind.u8 (a : Int)) <$> Rtype.kind t) #[.pointer (some ⟨1, 101, none⟩)]).run Tryz.prog w = .ok (.int .u8 22) w := by kernel_rfl
theorem ea_kindE (w : World) : ((ReflectliteType.abiMethod fun t => (fun a : Nat => Value.int IntKind.u8 (a : Int)) <$> Rtype.kind t) #[.pointer (some ⟨1, 51, none⟩)]).run Tryz.prog w = .ok (.int .u8 2) w := by kernel_rfl
theorem ea_elemPF (w : World) : (ReflectliteType.method ReflectliteType.elem #[hnd 103]).run Tryz.prog w = .ok (.iface 141 (hnd 101)) w := by kernel_rfl
theorem ea_elemPE (w : World) : (ReflectliteType.method ReflectliteType.elem #[hnd 106]).run Tryz.prog w = .ok (.iface 141 (hnd 51)) w := by kernel_rfl
theorem ea_implF (w : World) : (ReflectliteType.relation "Implements" ReflectliteType.implements_ #[hnd 101, .iface 141 (hnd 39)]).run Tryz.prog w = .ok (.bool true) w := by kernel_rfl
theorem ea_implE (w : World) : (ReflectliteType.relation "Implements" ReflectliteType.implements_ #[hnd 51, .iface 141 (hnd 39)]).run Tryz.prog w = .ok (.bool true) w := by kernel_rfl
theorem ea_typeOfF (v : Value) (w : World) : (ReflectliteType.typeOf #[.iface 101 v]).run Tryz.prog w = .ok (.iface 141 (hnd 101)) w := by kernel_rfl
theorem ea_typeOfE (v : Value) (w : World) : (ReflectliteType.typeOf #[.iface 51 v]).run Tryz.prog w = .ok (.iface 141 (hnd 51)) w := by kernel_rfl
theorem ea_assFF (w : World) : (ReflectliteType.relation "AssignableTo" ReflectliteType.assignableTo #[hnd 101, .iface 141 (hnd 101)]).run Tryz.prog w = .ok (.bool true) w := by kernel_rfl
theorem ea_assEE (w : World) : (ReflectliteType.relation "AssignableTo" ReflectliteType.assignableTo #[hnd 51, .iface 141 (hnd 51)]).run Tryz.prog w = .ok (.bool true) w := by kernel_rfl
theorem ea_assEF (w : World) : (ReflectliteType.relation "AssignableTo" ReflectliteType.assignableTo #[hnd 51, .iface 141 (hnd 101)]).run Tryz.prog w = .ok (.bool false) w := by kernel_rfl
theorem ea_valueOfF (e : Addr) (w : World) : (ReflectliteValue.unpack (.iface 101 (.pointer (some e)))).run Tryz.prog w
    = .ok (.agg #[.pointer (some ⟨1, 101, none⟩), .pointer (some ⟨w.heap.size, 0, none⟩), .int .u64 150]) (w.alloc (.cells #[.pointer (some e)] 101)) := by kernel_rfl
theorem ea_valueOfE (n : Int) (w : World) : (ReflectliteValue.unpack (.iface 51 (.int .i64 n))).run Tryz.prog w
    = .ok (.agg #[.pointer (some ⟨1, 51, none⟩), .pointer (some ⟨w.heap.size, 0, none⟩), .int .u64 130]) (w.alloc (.cells #[.int .i64 n] 51)) := by kernel_rfl

theorem rlm (z : Sem Value) (f : TypeId → Addr → Nat → Nat → Sem Value) (v : Value) :
    ReflectliteValue.method z f #[v] = (do match ← ReflectliteValue.parts v with | none => z | some (t, a, fl) => f t a fl (fl % 32)) := rfl
theorem ea_partsPF (a : Addr) (w : World) : (ReflectliteValue.parts (.agg #[.pointer (some ⟨1, 103, none⟩), .pointer (some a), .int .u64 150])).run Tryz.prog w = .ok (some (103, a, 150)) w := by kernel_rfl
theorem ea_partsPE (a : Addr) (w : World) : (ReflectliteValue.parts (.agg #[.pointer (some ⟨1, 106, none⟩), .pointer (some a), .int .u64 150])).run Tryz.prog w = .ok (some (106, a, 150)) w := by kernel_rfl
theorem ea_isNilPF (a p : Addr) (W : World) (ha : W.cell? a = some (.pointer (some p))) :
    (ReflectliteValue.method (ReflectliteValue.valueError "reflectlite.Value.IsNil" 0) ReflectliteValue.isNil #[.agg #[.pointer (some ⟨1, 103, none⟩), .pointer (some a), .int .u64 150]]).run Tryz.prog W = .ok (.bool false) W := by
  rw [rlm]
  simp only [Sem.run_bind, ea_partsPF, Result.andThen]
  simp [ReflectliteValue.isNil, loadVar, isAgg, underlying, Tryz.underlying103, ha, Result.andThen]
theorem ea_isNilPE (a p : Addr) (W : World) (ha : W.cell? a = some (.pointer (some p))) :
    (ReflectliteValue.method (ReflectliteValue.valueError "reflectlite.Value.IsNil" 0) ReflectliteValue.isNil #[.agg #[.pointer (some ⟨1, 106, none⟩), .pointer (some a), .int .u64 150]]).run Tryz.prog W = .ok (.bool false) W := by
  rw [rlm]
  simp only [Sem.run_bind, ea_partsPE, Result.andThen]
  simp [ReflectliteValue.isNil, loadVar, isAgg, underlying, Tryz.underlying106, ha, Result.andThen]
theorem ea_elemOfPF (w : World) : (Rtype.elem? 103).run Tryz.prog w = .ok (some 101) w := by kernel_rfl
theorem ea_elemOfPE (w : World) : (Rtype.elem? 106).run Tryz.prog w = .ok (some 51) w := by kernel_rfl
theorem ea_mkF (p : Addr) (w : World) : (ReflectliteValue.mk 101 p ReflectliteValue.flagAddr).run Tryz.prog w = .ok (.agg #[.pointer (some ⟨1, 101, none⟩), .pointer (some p), .int .u64 406]) w := by kernel_rfl
theorem ea_mkE (p : Addr) (w : World) : (ReflectliteValue.mk 51 p ReflectliteValue.flagAddr).run Tryz.prog w = .ok (.agg #[.pointer (some ⟨1, 51, none⟩), .pointer (some p), .int .u64 386]) w := by kernel_rfl
theorem ea_elemVPF (a p : Addr) (W : World) (ha : W.cell? a = some (.pointer (some p))) :
    (ReflectliteValue.method (ReflectliteValue.valueError "reflectlite.Value.Elem" 0) ReflectliteValue.elem #[.agg #[.pointer (some ⟨1, 103, none⟩), .pointer (some a), .int .u64 150]]).run Tryz.prog W
      = .ok (.agg #[.pointer (some ⟨1, 101, none⟩), .pointer (some p), .int .u64 406]) W := by
  rw [rlm]
  simp only [Sem.run_bind, ea_partsPF, Result.andThen]
  simp [ReflectliteValue.elem, loadVar, isAgg, underlying, Tryz.underlying103, ha, Result.andThen, ea_elemOfPF, ea_mkF]
theorem ea_elemVPE (a p : Addr) (W : World) (ha : W.cell? a = some (.pointer (some p))) :
    (ReflectliteValue.method (ReflectliteValue.valueError "reflectlite.Value.Elem" 0) ReflectliteValue.elem #[.agg #[.pointer (some ⟨1, 106, none⟩), .pointer (some a), .int .u64 150]]).run Tryz.prog W
      = .ok (.agg #[.pointer (some ⟨1, 51, none⟩), .pointer (some p), .int .u64 386]) W := by
  rw [rlm]
  simp only [Sem.run_bind, ea_partsPE, Result.andThen]
  simp [ReflectliteValue.elem, loadVar, isAgg, underlying, Tryz.underlying106, ha, Result.andThen, ea_elemOfPE, ea_mkE]
end Go.Proofs.YtfhdcjfkngflbaaGreatDoor
