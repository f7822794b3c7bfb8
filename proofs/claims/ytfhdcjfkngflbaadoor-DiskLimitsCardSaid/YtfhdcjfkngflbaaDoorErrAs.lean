/-
  errors.As at the two concrete targets of this program (**api.Fault, *api.Errno) and at its errors (api.Errno, *api.Fault). After the kit's worked example ToyasAs, turned to these types. Own work else.
-/
import Derived.Test.YtfhdcjfkngflbaaDoorProg
import Derived.WalkKit
import Derived.LaidEql
import Derived.Stop.Asserts
import Derived.RowKitTokens
import Derived.KernelRfl
set_option linter.unusedSimpArgs false
set_option linter.unusedVariables false
namespace Go.Proofs.YtfhdcjfkngflbaaDoor
open Go.RowKit Go.Extern.Stop Go.Stop Go.Extern

theorem as_nil (t : Value) (w : World) :
    Calls Tryd.prog 30 #[.nilIface, t] w fun e w' => e = .returned (.bool false) ∧ w' = w := by
  go_enter Tryd.func30, Tryd.ntmps30
  go_wp2
  go_ret
  exact ⟨rfl, rfl⟩

abbrev hnd (t : Nat) : Value := .agg #[.pointer (some ⟨1, t, none⟩)]

theorem ea_valueOfPF (t : Addr) (w : World) : (ReflectliteValue.unpack (.iface 74 (.pointer (some t)))).run Tryd.prog w
    = .ok (.agg #[.pointer (some ⟨1, 74, none⟩), .pointer (some ⟨w.heap.size, 0, none⟩), .int .u64 150]) (w.alloc (.cells #[.pointer (some t)] 74)) := by kernel_rfl
theorem ea_valueOfPE (t : Addr) (w : World) : (ReflectliteValue.unpack (.iface 77 (.pointer (some t)))).run Tryd.prog w
    = .ok (.agg #[.pointer (some ⟨1, 77, none⟩), .pointer (some ⟨w.heap.size, 0, none⟩), .int .u64 150]) (w.alloc (.cells #[.pointer (some t)] 77)) := by kernel_rfl
theorem ea_typePF (a : Addr) (w : World) : (ReflectliteValue.methodAny (ReflectliteValue.valueError "reflectlite.Value.Type" 0) (fun t _ _ _ => ReflectliteType.toType t) #[.agg #[.pointer (some ⟨1, 74, none⟩), .pointer (some a), .int .u64 150]]).run Tryd.prog w
    = .ok (.iface 110 (hnd 74)) w := by kernel_rfl
theorem ea_typePE (a : Addr) (w : World) : (ReflectliteValue.methodAny (ReflectliteValue.valueError "reflectlite.Value.Type" 0) (fun t _ _ _ => ReflectliteType.toType t) #[.agg #[.pointer (some ⟨1, 77, none⟩), .pointer (some a), .int .u64 150]]).run Tryd.prog w
    = .ok (.iface 110 (hnd 77)) w := by kernel_rfl
theorem ea_methodKind (h : Value) (w : World) : (Go.method 268 110 (.agg #[h]) "Kind").run Tryd.prog w = .ok (89, h) w := by kernel_rfl
theorem ea_methodElem (h : Value) (w : World) : (Go.method 268 110 (.agg #[h]) "Elem").run Tryd.prog w = .ok (101, .agg #[h]) w := by kernel_rfl
theorem ea_methodImplements (h : Value) (w : World) : (Go.method 268 110 (.agg #[h]) "Implements").run Tryd.prog w = .ok (102, .agg #[h]) w := by kernel_rfl
theorem ea_methodAssignableTo (h : Value) (w : World) : (Go.method 268 110 (.agg #[h]) "AssignableTo").run Tryd.prog w = .ok (99, .agg #[h]) w := by kernel_rfl
theorem ea_kindPF (w : World) : ((ReflectliteType.abiMethod fun t => (fun a : Nat => Value.int IntKind.u8 (a : Int)) <$> Rtype.kind t) #[.pointer (some ⟨1, 74, none⟩)]).run Tryd.prog w = .ok (.int .u8 22) w := by kernel_rfl
theorem ea_kindPE (w : World) : ((ReflectliteType.abiMethod fun t => (fun a : Nat => Value.int IntKind.u8 (a : Int)) <$> Rtype.kind t) #[.pointer (some ⟨1, 77, none⟩)]).run Tryd.prog w = .ok (.int .u8 22) w := by kernel_rfl
theorem ea_kindF (w : World) : ((ReflectliteType.abiMethod fun t => (fun a : Nat => Value.int IntKind.u8 (a : Int)) <$> Rtype.kind t) #[.pointer (some ⟨1, 72, none⟩)]).run Tryd.prog w = .ok (.int .u8 22) w := by kernel_rfl
theorem ea_kindE (w : World) : ((ReflectliteType.abiMethod fun t => (fun a : Nat => Value.int IntKind.u8 (a : Int)) <$> Rtype.kind t) #[.pointer (some ⟨1, 31, none⟩)]).run Tryd.prog w = .ok (.int .u8 2) w := by kernel_rfl
theorem ea_elemPF (w : World) : (ReflectliteType.method ReflectliteType.elem #[hnd 74]).run Tryd.prog w = .ok (.iface 110 (hnd 72)) w := by kernel_rfl
theorem ea_elemPE (w : World) : (ReflectliteType.method ReflectliteType.elem #[hnd 77]).run Tryd.prog w = .ok (.iface 110 (hnd 31)) w := by kernel_rfl
theorem ea_implF (w : World) : (ReflectliteType.relation "Implements" ReflectliteType.implements_ #[hnd 72, .iface 110 (hnd 26)]).run Tryd.prog w = .ok (.bool true) w := by kernel_rfl
theorem ea_implE (w : World) : (ReflectliteType.relation "Implements" ReflectliteType.implements_ #[hnd 31, .iface 110 (hnd 26)]).run Tryd.prog w = .ok (.bool true) w := by kernel_rfl
theorem ea_typeOfF (v : Value) (w : World) : (ReflectliteType.typeOf #[.iface 72 v]).run Tryd.prog w = .ok (.iface 110 (hnd 72)) w := by kernel_rfl
theorem ea_typeOfE (v : Value) (w : World) : (ReflectliteType.typeOf #[.iface 31 v]).run Tryd.prog w = .ok (.iface 110 (hnd 31)) w := by kernel_rfl
theorem ea_assFF (w : World) : (ReflectliteType.relation "AssignableTo" ReflectliteType.assignableTo #[hnd 72, .iface 110 (hnd 72)]).run Tryd.prog w = .ok (.bool true) w := by kernel_rfl
theorem ea_assEE (w : World) : (ReflectliteType.relation "AssignableTo" ReflectliteType.assignableTo #[hnd 31, .iface 110 (hnd 31)]).run Tryd.prog w = .ok (.bool true) w := by kernel_rfl
theorem ea_assEF (w : World) : (ReflectliteType.relation "AssignableTo" ReflectliteType.assignableTo #[hnd 31, .iface 110 (hnd 72)]).run Tryd.prog w = .ok (.bool false) w := by kernel_rfl
theorem ea_valueOfF (e : Addr) (w : World) : (ReflectliteValue.unpack (.iface 72 (.pointer (some e)))).run Tryd.prog w
    = .ok (.agg #[.pointer (some ⟨1, 72, none⟩), .pointer (some ⟨w.heap.size, 0, none⟩), .int .u64 150]) (w.alloc (.cells #[.pointer (some e)] 72)) := by kernel_rfl
theorem ea_valueOfE (n : Int) (w : World) : (ReflectliteValue.unpack (.iface 31 (.int .i64 n))).run Tryd.prog w
    = .ok (.agg #[.pointer (some ⟨1, 31, none⟩), .pointer (some ⟨w.heap.size, 0, none⟩), .int .u64 130]) (w.alloc (.cells #[.int .i64 n] 31)) := by kernel_rfl

theorem rlm (z : Sem Value) (f : TypeId → Addr → Nat → Nat → Sem Value) (v : Value) :
    ReflectliteValue.method z f #[v] = (do match ← ReflectliteValue.parts v with | none => z | some (t, a, fl) => f t a fl (fl % 32)) := rfl
theorem ea_partsPF (a : Addr) (w : World) : (ReflectliteValue.parts (.agg #[.pointer (some ⟨1, 74, none⟩), .pointer (some a), .int .u64 150])).run Tryd.prog w = .ok (some (74, a, 150)) w := by kernel_rfl
theorem ea_partsPE (a : Addr) (w : World) : (ReflectliteValue.parts (.agg #[.pointer (some ⟨1, 77, none⟩), .pointer (some a), .int .u64 150])).run Tryd.prog w = .ok (some (77, a, 150)) w := by kernel_rfl
theorem ea_isNilPF (a p : Addr) (W : World) (ha : W.cell? a = some (.pointer (some p))) :
    (ReflectliteValue.method (ReflectliteValue.valueError "reflectlite.Value.IsNil" 0) ReflectliteValue.isNil #[.agg #[.pointer (some ⟨1, 74, none⟩), .pointer (some a), .int .u64 150]]).run Tryd.prog W = .ok (.bool false) W := by
  rw [rlm]
  simp only [Sem.run_bind, ea_partsPF, Result.andThen]
  simp [ReflectliteValue.isNil, loadVar, isAgg, underlying, Tryd.underlying74, ha, Result.andThen]
theorem ea_isNilPE (a p : Addr) (W : World) (ha : W.cell? a = some (.pointer (some p))) :
    (ReflectliteValue.method (ReflectliteValue.valueError "reflectlite.Value.IsNil" 0) ReflectliteValue.isNil #[.agg #[.pointer (some ⟨1, 77, none⟩), .pointer (some a), .int .u64 150]]).run Tryd.prog W = .ok (.bool false) W := by
  rw [rlm]
  simp only [Sem.run_bind, ea_partsPE, Result.andThen]
  simp [ReflectliteValue.isNil, loadVar, isAgg, underlying, Tryd.underlying77, ha, Result.andThen]
theorem ea_elemOfPF (w : World) : (Rtype.elem? 74).run Tryd.prog w = .ok (some 72) w := by kernel_rfl
theorem ea_elemOfPE (w : World) : (Rtype.elem? 77).run Tryd.prog w = .ok (some 31) w := by kernel_rfl
theorem ea_mkF (p : Addr) (w : World) : (ReflectliteValue.mk 72 p ReflectliteValue.flagAddr).run Tryd.prog w = .ok (.agg #[.pointer (some ⟨1, 72, none⟩), .pointer (some p), .int .u64 406]) w := by kernel_rfl
theorem ea_mkE (p : Addr) (w : World) : (ReflectliteValue.mk 31 p ReflectliteValue.flagAddr).run Tryd.prog w = .ok (.agg #[.pointer (some ⟨1, 31, none⟩), .pointer (some p), .int .u64 386]) w := by kernel_rfl
theorem ea_elemVPF (a p : Addr) (W : World) (ha : W.cell? a = some (.pointer (some p))) :
    (ReflectliteValue.method (ReflectliteValue.valueError "reflectlite.Value.Elem" 0) ReflectliteValue.elem #[.agg #[.pointer (some ⟨1, 74, none⟩), .pointer (some a), .int .u64 150]]).run Tryd.prog W
      = .ok (.agg #[.pointer (some ⟨1, 72, none⟩), .pointer (some p), .int .u64 406]) W := by
  rw [rlm]
  simp only [Sem.run_bind, ea_partsPF, Result.andThen]
  simp [ReflectliteValue.elem, loadVar, isAgg, underlying, Tryd.underlying74, ha, Result.andThen, ea_elemOfPF, ea_mkF]
theorem ea_elemVPE (a p : Addr) (W : World) (ha : W.cell? a = some (.pointer (some p))) :
    (ReflectliteValue.method (ReflectliteValue.valueError "reflectlite.Value.Elem" 0) ReflectliteValue.elem #[.agg #[.pointer (some ⟨1, 77, none⟩), .pointer (some a), .int .u64 150]]).run Tryd.prog W
      = .ok (.agg #[.pointer (some ⟨1, 31, none⟩), .pointer (some p), .int .u64 386]) W := by
  rw [rlm]
  simp only [Sem.run_bind, ea_partsPE, Result.andThen]
  simp [ReflectliteValue.elem, loadVar, isAgg, underlying, Tryd.underlying77, ha, Result.andThen, ea_elemOfPE, ea_mkE]
end Go.Proofs.YtfhdcjfkngflbaaDoor
