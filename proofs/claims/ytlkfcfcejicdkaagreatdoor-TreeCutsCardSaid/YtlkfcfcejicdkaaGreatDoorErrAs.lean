/-
  errors.As at the two concrete targets of this program (**api.Fault, *api.Errno) and at its errors (api.Errno, *api.Fault). After the kit's worked example ToyasAs, turned to these types. Own work else.
-/
import Derived.Test.YtlkfcfcejicdkaaGreatDoorProg
import Derived.WalkKit
import Derived.LaidEql
import Derived.Stop.Asserts
import Derived.RowKitTokens
import Derived.KernelRfl
set_option linter.unusedSimpArgs false
set_option linter.unusedVariables false
namespace Go.Proofs.YtlkfcfcejicdkaaGreatDoor
open Go.RowKit Go.Extern.Stop Go.Stop Go.Extern

theorem as_nil (t : Value) (w : World) :
    Calls Tryz.prog 66 #[.nilIface, t] w fun e w' => e = .returned (.bool false) ∧ w' = w := by
  go_enter Tryz.func66, Tryz.ntmps66
  go_wp2
  go_ret
  exact ⟨rfl, rfl⟩

abbrev hnd (t : Nat) : Value := .agg #[.pointer (some ⟨1, t, none⟩)]

theorem ea_valueOfPF (t : Addr) (w : World) : (ReflectliteValue.unpack (.iface 94 (.pointer (some t)))).run Tryz.prog w
    = .ok (.agg #[.pointer (some ⟨1, 94, none⟩), .pointer (some ⟨w.heap.size, 0, none⟩), .int .u64 150]) (w.alloc (.cells #[.pointer (some t)] 94)) := by kernel_rfl
theorem ea_valueOfPE (t : Addr) (w : World) : (ReflectliteValue.unpack (.iface 97 (.pointer (some t)))).run Tryz.prog w
    = .ok (.agg #[.pointer (some ⟨1, 97, none⟩), .pointer (some ⟨w.heap.size, 0, none⟩), .int .u64 150]) (w.alloc (.cells #[.pointer (some t)] 97)) := by kernel_rfl
theorem ea_typePF (a : Addr) (w : World) : (ReflectliteValue.methodAny (ReflectliteValue.valueError "reflectlite.Value.Type" 0) (fun t _ _ _ => ReflectliteType.toType t) #[.agg #[.pointer (some ⟨1, 94, none⟩), .pointer (some a), .int .u64 150]]).run Tryz.prog w
    = .ok (.iface 135 (hnd 94)) w := by kernel_rfl
theorem ea_typePE (a : Addr) (w : World) : (ReflectliteValue.methodAny (ReflectliteValue.valueError "reflectlite.Value.Type" 0) (fun t _ _ _ => ReflectliteType.toType t) #[.agg #[.pointer (some ⟨1, 97, none⟩), .pointer (some a), .int .u64 150]]).run Tryz.prog w
    = .ok (.iface 135 (hnd 97)) w := by kernel_rfl
theorem ea_methodKind (h : Value) (w : World) : (Go.method 294 135 (.agg #[h]) "Kind").run Tryz.prog w = .ok (128, h) w := by kernel_rfl
theorem ea_methodElem (h : Value) (w : World) : (Go.method 294 135 (.agg #[h]) "Elem").run Tryz.prog w = .ok (140, .agg #[h]) w := by kernel_rfl
theorem ea_methodImplements (h : Value) (w : World) : (Go.method 294 135 (.agg #[h]) "Implements").run Tryz.prog w = .ok (141, .agg #[h]) w := by kernel_rfl
theorem ea_methodAssignableTo (h : Value) (w : World) : (Go.method 294 135 (.agg #[h]) "AssignableTo").run Tryz.prog w = .ok (138, .agg #[h]) w := by kernel_rfl
theorem ea_kindPF (w : World) : ((ReflectliteType.abiMethod fun t => (fun a : Nat => Value.int IntKind.u8 (a : Int)) <$> Rtype.kind t) #[.pointer (some ⟨1, 94, none⟩)]).run Tryz.prog w = .ok (.int .u8 22) w := by kernel_rfl
theorem ea_kindPE (w : World) : ((ReflectliteType.abiMethod fun t => (fun a : Nat => Value.int IntKind.u8 (a : Int)) <$> Rtype.kind t) #[.pointer (some ⟨1, 97, none⟩)]).run Tryz.prog w = .ok (.int .u8 22) w := by kernel_rfl
theorem ea_kindF (w : World) : ((ReflectliteType.abiMethod fun t => (fun a : Nat => Value.int IntKind.u8 (a : Int)) <$> Rtype.kind t) #[.pointer (some ⟨1, 92, none⟩)]).run Tryz.prog w = .ok (.int .u8 22) w := by kernel_rfl
theorem ea_kindE (w : World) : ((ReflectliteType.abiMethod fun t => (fun a : Nat => Value.int IntKind.u8 (a : Int)) <$> Rtype.kind t) #[.pointer (some ⟨1, 41, none⟩)]).run Tryz.prog w = .ok (.int .u8 2) w := by kernel_rfl
theorem ea_elemPF (w : World) : (ReflectliteType.method ReflectliteType.elem #[hnd 94]).run Tryz.prog w = .ok (.iface 135 (hnd 92)) w := by kernel_rfl
theorem ea_elemPE (w : World) : (ReflectliteType.method ReflectliteType.elem #[hnd 97]).run Tryz.prog w = .ok (.iface 135 (hnd 41)) w := by kernel_rfl
theorem ea_implF (w : World) : (ReflectliteType.relation "Implements" ReflectliteType.implements_ #[hnd 92, .iface 135 (hnd 29)]).run Tryz.prog w = .ok (.bool true) w := by kernel_rfl
theorem ea_implE (w : World) : (ReflectliteType.relation "Implements" ReflectliteType.implements_ #[hnd 41, .iface 135 (hnd 29)]).run Tryz.prog w = .ok (.bool true) w := by kernel_rfl
theorem ea_typeOfF (v : Value) (w : World) : (ReflectliteType.typeOf #[.iface 92 v]).run Tryz.prog w = .ok (.iface 135 (hnd 92)) w := by kernel_rfl
theorem ea_typeOfE (v : Value) (w : World) : (ReflectliteType.typeOf #[.iface 41 v]).run Tryz.prog w = .ok (.iface 135 (hnd 41)) w := by kernel_rfl
theorem ea_assFF (w : World) : (ReflectliteType.relation "AssignableTo" ReflectliteType.assignableTo #[hnd 92, .iface 135 (hnd 92)]).run Tryz.prog w = .ok (.bool true) w := by kernel_rfl
theorem ea_assEE (w : World) : (ReflectliteType.relation "AssignableTo" ReflectliteType.assignableTo #[hnd 41, .iface 135 (hnd 41)]).run Tryz.prog w = .ok (.bool true) w := by kernel_rfl
theorem ea_assEF (w : World) : (ReflectliteType.relation "AssignableTo" ReflectliteType.assignableTo #[hnd 41, .iface 135 (hnd 92)]).run Tryz.prog w = .ok (.bool false) w := by kernel_rfl
theorem ea_valueOfF (e : Addr) (w : World) : (ReflectliteValue.unpack (.iface 92 (.pointer (some e)))).run Tryz.prog w
    = .ok (.agg #[.pointer (some ⟨1, 92, none⟩), .pointer (some ⟨w.heap.size, 0, none⟩), .int .u64 150]) (w.alloc (.cells #[.pointer (some e)] 92)) := by kernel_rfl
theorem ea_valueOfE (n : Int) (w : World) : (ReflectliteValue.unpack (.iface 41 (.int .i64 n))).run Tryz.prog w
    = .ok (.agg #[.pointer (some ⟨1, 41, none⟩), .pointer (some ⟨w.heap.size, 0, none⟩), .int .u64 130]) (w.alloc (.cells #[.int .i64 n] 41)) := by kernel_rfl

theorem rlm (z : Sem Value) (f : TypeId → Addr → Nat → Nat → Sem Value) (v : Value) :
    ReflectliteValue.method z f #[v] = (do match ← ReflectliteValue.parts v with | none => z | some (t, a, fl) => f t a fl (fl % 32)) := rfl
theorem ea_partsPF (a : Addr) (w : World) : (ReflectliteValue.parts (.agg #[.pointer (some ⟨1, 94, none⟩), .pointer (some a), .int .u64 150])).run Tryz.prog w = .ok (some (94, a, 150)) w := by kernel_rfl
theorem ea_partsPE (a : Addr) (w : World) : (ReflectliteValue.parts (.agg #[.pointer (some ⟨1, 97, none⟩), .pointer (some a), .int .u64 150])).run Tryz.prog w = .ok (some (97, a, 150)) w := by kernel_rfl
theorem ea_isNilPF (a p : Addr) (W : World) (ha : W.cell? a = some (.pointer (some p))) :
    (ReflectliteValue.method (ReflectliteValue.valueError "reflectlite.Value.IsNil" 0) ReflectliteValue.isNil #[.agg #[.pointer (some ⟨1, 94, none⟩), .pointer (some a), .int .u64 150]]).run Tryz.prog W = .ok (.bool false) W := by
  rw [rlm]
  simp only [Sem.run_bind, ea_partsPF, Result.andThen]
  simp [ReflectliteValue.isNil, loadVar, isAgg, underlying, Tryz.underlying94, ha, Result.andThen]
theorem ea_isNilPE (a p : Addr) (W : World) (ha : W.cell? a = some (.pointer (some p))) :
    (ReflectliteValue.method (ReflectliteValue.valueError "reflectlite.Value.IsNil" 0) ReflectliteValue.isNil #[.agg #[.pointer (some ⟨1, 97, none⟩), .pointer (some a), .int .u64 150]]).run Tryz.prog W = .ok (.bool false) W := by
  rw [rlm]
  simp only [Sem.run_bind, ea_partsPE, Result.andThen]
  simp [ReflectliteValue.isNil, loadVar, isAgg, underlying, Tryz.underlying97, ha, Result.andThen]
theorem ea_elemOfPF (w : World) : (Rtype.elem? 94).run Tryz.prog w = .ok (some 92) w := by kernel_rfl
theorem ea_elemOfPE (w : World) : (Rtype.elem? 97).run Tryz.prog w = .ok (some 41) w := by kernel_rfl
theorem ea_mkF (p : Addr) (w : World) : (ReflectliteValue.mk 92 p ReflectliteValue.flagAddr).run Tryz.prog w = .ok (.agg #[.pointer (some ⟨1, 92, none⟩), .pointer (some p), .int .u64 406]) w := by kernel_rfl
theorem ea_mkE (p : Addr) (w : World) : (ReflectliteValue.mk 41 p ReflectliteValue.flagAddr).run Tryz.prog w = .ok (.agg #[.pointer (some ⟨1, 41, none⟩), .pointer (some p), .int .u64 386]) w := by kernel_rfl
theorem ea_elemVPF (a p : Addr) (W : World) (ha : W.cell? a = some (.pointer (some p))) :
    (ReflectliteValue.method (ReflectliteValue.valueError "reflectlite.Value.Elem" 0) ReflectliteValue.elem #[.agg #[.pointer (some ⟨1, 94, none⟩), .pointer (some a), .int .u64 150]]).run Tryz.prog W
      = .ok (.agg #[.pointer (some ⟨1, 92, none⟩), .pointer (some p), .int .u64 406]) W := by
  rw [rlm]
  simp only [Sem.run_bind, ea_partsPF, Result.andThen]
  simp [ReflectliteValue.elem, loadVar, isAgg, underlying, Tryz.underlying94, ha, Result.andThen, ea_elemOfPF, ea_mkF]
theorem ea_elemVPE (a p : Addr) (W : World) (ha : W.cell? a = some (.pointer (some p))) :
    (ReflectliteValue.method (ReflectliteValue.valueError "reflectlite.Value.Elem" 0) ReflectliteValue.elem #[.agg #[.pointer (some ⟨1, 97, none⟩), .pointer (some a), .int .u64 150]]).run Tryz.prog W
      = .ok (.agg #[.pointer (some ⟨1, 41, none⟩), .pointer (some p), .int .u64 386]) W := by
  rw [rlm]
  simp only [Sem.run_bind, ea_partsPE, Result.andThen]
  simp [ReflectliteValue.elem, loadVar, isAgg, underlying, Tryz.underlying97, ha, Result.andThen, ea_elemOfPE, ea_mkE]
end Go.Proofs.YtlkfcfcejicdkaaGreatDoor
