/-
  errors.As at the two concrete targets of this program (**api.Fault, *api.Errno) and at its errors (api.Errno, *api.Fault). After the kit's worked example ToyasAs, turned to these types. Own work else.
  errors.As: the contracts at this program's errors and targets. After the kit's worked example ToyasAs, turned to these types. Own work else.
  aviarylaw01.Of at a plain number; aviaryref01.N, Same; 'fails'. Own work.
-/
import Derived.Test.YthokoimoiamddaaGreatDoorProg
import Derived.WalkKit
import Derived.LaidEql
import Derived.Stop.Asserts
import Derived.RowKitTokens
import Derived.KernelRfl
import Derived.Deep.Draws
import Derived.Lib.Hide
import Derived.BigQuiet
import Derived.Deep.RegionWith
import Derived.WalkSpells
set_option linter.unusedSimpArgs false
set_option linter.unusedVariables false
namespace Go.Proofs.YthokoimoiamddaaGreatDoor
open Go.RowKit Go.Extern.Stop Go.Stop Go.Extern

theorem as_nil (t : Value) (w : World) :
    Calls Tryz.prog 52 #[.nilIface, t] w fun e w' => e = .returned (.bool false) ∧ w' = w := by
  go_enter Tryz.func52, Tryz.ntmps52
  go_wp2
  go_ret
  exact ⟨rfl, rfl⟩

abbrev hnd (t : Nat) : Value := .agg #[.pointer (some ⟨7, t, none⟩)]

theorem ea_valueOfPF (t : Addr) (w : World) : (ReflectliteValue.unpack (.iface 109 (.pointer (some t)))).run Tryz.prog w
    = .ok (.agg #[.pointer (some ⟨7, 109, none⟩), .pointer (some ⟨w.heap.size, 0, none⟩), .int .u64 150]) (w.alloc (.cells #[.pointer (some t)] 109)) := by kernel_rfl
theorem ea_valueOfPE (t : Addr) (w : World) : (ReflectliteValue.unpack (.iface 112 (.pointer (some t)))).run Tryz.prog w
    = .ok (.agg #[.pointer (some ⟨7, 112, none⟩), .pointer (some ⟨w.heap.size, 0, none⟩), .int .u64 150]) (w.alloc (.cells #[.pointer (some t)] 112)) := by kernel_rfl
theorem ea_typePF (a : Addr) (w : World) : (ReflectliteValue.methodAny (ReflectliteValue.valueError "reflectlite.Value.Type" 0) (fun t _ _ _ => ReflectliteType.toType t) #[.agg #[.pointer (some ⟨7, 109, none⟩), .pointer (some a), .int .u64 150]]).run Tryz.prog w
    = .ok (.iface 162 (hnd 109)) w := by kernel_rfl
theorem ea_typePE (a : Addr) (w : World) : (ReflectliteValue.methodAny (ReflectliteValue.valueError "reflectlite.Value.Type" 0) (fun t _ _ _ => ReflectliteType.toType t) #[.agg #[.pointer (some ⟨7, 112, none⟩), .pointer (some a), .int .u64 150]]).run Tryz.prog w
    = .ok (.iface 162 (hnd 112)) w := by kernel_rfl
theorem ea_methodKind (h : Value) (w : World) : (Go.method 357 162 (.agg #[h]) "Kind").run Tryz.prog w = .ok (166, h) w := by kernel_rfl
theorem ea_methodElem (h : Value) (w : World) : (Go.method 357 162 (.agg #[h]) "Elem").run Tryz.prog w = .ok (179, .agg #[h]) w := by kernel_rfl
theorem ea_methodImplements (h : Value) (w : World) : (Go.method 357 162 (.agg #[h]) "Implements").run Tryz.prog w = .ok (180, .agg #[h]) w := by kernel_rfl
theorem ea_methodAssignableTo (h : Value) (w : World) : (Go.method 357 162 (.agg #[h]) "AssignableTo").run Tryz.prog w = .ok (177, .agg #[h]) w := by kernel_rfl
theorem ea_kindPF (w : World) : ((ReflectliteType.abiMethod fun t => (fun a : Nat => Value.int IntKind.u8 (a : Int)) <$> Rtype.kind t) #[.pointer (some ⟨7, 109, none⟩)]).run Tryz.prog w = .ok (.int .u8 22) w := by kernel_rfl
theorem ea_kindPE (w : World) : ((ReflectliteType.abiMethod fun t => (fun a : Nat => Value.int IntKind.u8 (a : Int)) <$> Rtype.kind t) #[.pointer (some ⟨7, 112, none⟩)]).run Tryz.prog w = .ok (.int .u8 22) w := by kernel_rfl
theorem ea_kindF (w : World) : ((ReflectliteType.abiMethod fun t => (fun a : Nat => Value.int IntKind.u8 (a : Int)) <$> Rtype.kind t) #[.pointer (some ⟨7, 107, none⟩)]).run Tryz.prog w = .ok (.int .u8 22) w := by kernel_rfl
theorem ea_kindE (w : World) : ((ReflectliteType.abiMethod fun t => (fun a : Nat => Value.int IntKind.u8 (a : Int)) <$> Rtype.kind t) #[.pointer (some ⟨7, 42, none⟩)]).run Tryz.prog w = .ok (.int .u8 2) w := by kernel_rfl
theorem ea_elemPF (w : World) : (ReflectliteType.method ReflectliteType.elem #[hnd 109]).run Tryz.prog w = .ok (.iface 162 (hnd 107)) w := by kernel_rfl
theorem ea_elemPE (w : World) : (ReflectliteType.method ReflectliteType.elem #[hnd 112]).run Tryz.prog w = .ok (.iface 162 (hnd 42)) w := by kernel_rfl
theorem ea_implF (w : World) : (ReflectliteType.relation "Implements" ReflectliteType.implements_ #[hnd 107, .iface 162 (hnd 31)]).run Tryz.prog w = .ok (.bool true) w := by kernel_rfl
theorem ea_implE (w : World) : (ReflectliteType.relation "Implements" ReflectliteType.implements_ #[hnd 42, .iface 162 (hnd 31)]).run Tryz.prog w = .ok (.bool true) w := by kernel_rfl
theorem ea_typeOfF (v : Value) (w : World) : (ReflectliteType.typeOf #[.iface 107 v]).run Tryz.prog w = .ok (.iface 162 (hnd 107)) w := by kernel_rfl
theorem ea_typeOfE (v : Value) (w : World) : (ReflectliteType.typeOf #[.iface 42 v]).run Tryz.prog w = .ok (.iface 162 (hnd 42)) w := by kernel_rfl
theorem ea_assFF (w : World) : (ReflectliteType.relation "AssignableTo" ReflectliteType.assignableTo #[hnd 107, .iface 162 (hnd 107)]).run Tryz.prog w = .ok (.bool true) w := by kernel_rfl
theorem ea_assEE (w : World) : (ReflectliteType.relation "AssignableTo" ReflectliteType.assignableTo #[hnd 42, .iface 162 (hnd 42)]).run Tryz.prog w = .ok (.bool true) w := by kernel_rfl
theorem ea_assEF (w : World) : (ReflectliteType.relation "AssignableTo" ReflectliteType.assignableTo #[hnd 42, .iface 162 (hnd 107)]).run Tryz.prog w = .ok (.bool false) w := by kernel_rfl
theorem ea_valueOfF (e : Addr) (w : World) : (ReflectliteValue.unpack (.iface 107 (.pointer (some e)))).run Tryz.prog w
    = .ok (.agg #[.pointer (some ⟨7, 107, none⟩), .pointer (some ⟨w.heap.size, 0, none⟩), .int .u64 150]) (w.alloc (.cells #[.pointer (some e)] 107)) := by kernel_rfl
theorem ea_valueOfE (n : Int) (w : World) : (ReflectliteValue.unpack (.iface 42 (.int .i64 n))).run Tryz.prog w
    = .ok (.agg #[.pointer (some ⟨7, 42, none⟩), .pointer (some ⟨w.heap.size, 0, none⟩), .int .u64 130]) (w.alloc (.cells #[.int .i64 n] 42)) := by kernel_rfl

theorem rlm (z : Sem Value) (f : TypeId → Addr → Nat → Nat → Sem Value) (v : Value) :
    ReflectliteValue.method z f #[v] = (do match ← ReflectliteValue.parts v with | none => z | some (t, a, fl) => f t a fl (fl % 32)) := rfl
theorem ea_partsPF (a : Addr) (w : World) : (ReflectliteValue.parts (.agg #[.pointer (some ⟨7, 109, none⟩), .pointer (some a), .int .u64 150])).run Tryz.prog w = .ok (some (109, a, 150)) w := by kernel_rfl
theorem ea_partsPE (a : Addr) (w : World) : (ReflectliteValue.parts (.agg #[.pointer (some ⟨7, 112, none⟩), .pointer (some a), .int .u64 150])).run Tryz.prog w = .ok (some (112, a, 150)) w := by kernel_rfl
theorem ea_isNilPF (a p : Addr) (W : World) (ha : W.cell? a = some (.pointer (some p))) :
    (ReflectliteValue.method (ReflectliteValue.valueError "reflectlite.Value.IsNil" 0) ReflectliteValue.isNil #[.agg #[.pointer (some ⟨7, 109, none⟩), .pointer (some a), .int .u64 150]]).run Tryz.prog W = .ok (.bool false) W := by
  rw [rlm]
  simp only [Sem.run_bind, ea_partsPF, Result.andThen]
  simp [ReflectliteValue.isNil, loadVar, isAgg, underlying, Tryz.underlying109, ha, Result.andThen]
theorem ea_isNilPE (a p : Addr) (W : World) (ha : W.cell? a = some (.pointer (some p))) :
    (ReflectliteValue.method (ReflectliteValue.valueError "reflectlite.Value.IsNil" 0) ReflectliteValue.isNil #[.agg #[.pointer (some ⟨7, 112, none⟩), .pointer (some a), .int .u64 150]]).run Tryz.prog W = .ok (.bool false) W := by
  rw [rlm]
  simp only [Sem.run_bind, ea_partsPE, Result.andThen]
  simp [ReflectliteValue.isNil, loadVar, isAgg, underlying, Tryz.underlying112, ha, Result.andThen]
theorem ea_elemOfPF (w : World) : (Rtype.elem? 109).run Tryz.prog w = .ok (some 107) w := by kernel_rfl
theorem ea_elemOfPE (w : World) : (Rtype.elem? 112).run Tryz.prog w = .ok (some 42) w := by kernel_rfl
theorem ea_mkF (p : Addr) (w : World) : (ReflectliteValue.mk 107 p ReflectliteValue.flagAddr).run Tryz.prog w = .ok (.agg #[.pointer (some ⟨7, 107, none⟩), .pointer (some p), .int .u64 406]) w := by kernel_rfl
theorem ea_mkE (p : Addr) (w : World) : (ReflectliteValue.mk 42 p ReflectliteValue.flagAddr).run Tryz.prog w = .ok (.agg #[.pointer (some ⟨7, 42, none⟩), .pointer (some p), .int .u64 386]) w := by kernel_rfl
theorem ea_elemVPF (a p : Addr) (W : World) (ha : W.cell? a = some (.pointer (some p))) :
    (ReflectliteValue.method (ReflectliteValue.valueError "reflectlite.Value.Elem" 0) ReflectliteValue.elem #[.agg #[.pointer (some ⟨7, 109, none⟩), .pointer (some a), .int .u64 150]]).run Tryz.prog W
      = .ok (.agg #[.pointer (some ⟨7, 107, none⟩), .pointer (some p), .int .u64 406]) W := by
  rw [rlm]
  simp only [Sem.run_bind, ea_partsPF, Result.andThen]
  simp [ReflectliteValue.elem, loadVar, isAgg, underlying, Tryz.underlying109, ha, Result.andThen, ea_elemOfPF, ea_mkF]
theorem ea_elemVPE (a p : Addr) (W : World) (ha : W.cell? a = some (.pointer (some p))) :
    (ReflectliteValue.method (ReflectliteValue.valueError "reflectlite.Value.Elem" 0) ReflectliteValue.elem #[.agg #[.pointer (some ⟨7, 112, none⟩), .pointer (some a), .int .u64 150]]).run Tryz.prog W
      = .ok (.agg #[.pointer (some ⟨7, 42, none⟩), .pointer (some p), .int .u64 386]) W := by
  rw [rlm]
  simp only [Sem.run_bind, ea_partsPE, Result.andThen]
  simp [ReflectliteValue.elem, loadVar, isAgg, underlying, Tryz.underlying112, ha, Result.andThen, ea_elemOfPE, ea_mkE]
end Go.Proofs.YthokoimoiamddaaGreatDoor
set_option linter.unusedSimpArgs false
set_option linter.unusedVariables false
namespace Go.Proofs.YthokoimoiamddaaGreatDoor
open Go.RowKit Go.Extern.Stop Go.Stop Go.Extern

theorem rls (v x : Value) : ReflectliteValue.set #[v, x] = (do
    let (some (dst, a, fl), some (src, b, _)) := (← ReflectliteValue.parts v, ← ReflectliteValue.parts x)
      | unsupported (.noEntry "extern/(internal/reflectlite.Value).Set.zeroValue")
    if fl / ReflectliteValue.flagAddr % 2 == 0 then unsupported (.noEntry "extern/(internal/reflectlite.Value).Set.unaddressable")
    let val ← loadVar src b
    if ← Rtype.directlyAssignable dst src then storeVar dst a val
    else if ← Rtype.implements dst src then
      if (← Rtype.kind src) == 20 then
        match val with
        | .nilIface => unsupported (.noEntry "extern/reflectlite: a nil value of one interface type handed on as a value of another")
        | _ => storeVar dst a val
      else storeVar dst a (.iface src val)
    else panicString ("reflectlite.Set: value of type " ++ (← Rtype.spelt src) ++ " is not assignable to type " ++ (← Rtype.spelt dst))
    pure (.tuple #[])) := rfl
theorem ea_partsFa (a : Addr) (w : World) : (ReflectliteValue.parts (.agg #[.pointer (some ⟨7, 107, none⟩), .pointer (some a), .int .u64 406])).run Tryz.prog w = .ok (some (107, a, 406)) w := by kernel_rfl
theorem ea_partsF (a : Addr) (w : World) : (ReflectliteValue.parts (.agg #[.pointer (some ⟨7, 107, none⟩), .pointer (some a), .int .u64 150])).run Tryz.prog w = .ok (some (107, a, 150)) w := by kernel_rfl
theorem ea_partsEa (a : Addr) (w : World) : (ReflectliteValue.parts (.agg #[.pointer (some ⟨7, 42, none⟩), .pointer (some a), .int .u64 386])).run Tryz.prog w = .ok (some (42, a, 386)) w := by kernel_rfl
theorem ea_partsE (a : Addr) (w : World) : (ReflectliteValue.parts (.agg #[.pointer (some ⟨7, 42, none⟩), .pointer (some a), .int .u64 130])).run Tryz.prog w = .ok (some (42, a, 130)) w := by kernel_rfl
theorem ea_directF (w : World) : (Rtype.directlyAssignable 107 107).run Tryz.prog w = .ok true w := by kernel_rfl
theorem ea_directE (w : World) : (Rtype.directlyAssignable 42 42).run Tryz.prog w = .ok true w := by kernel_rfl
theorem ea_setF (ta b : Addr) (e : Addr) (old : Value) (W : World) (hb : W.cell? b = some (.pointer (some e))) (ht : W.cell? ta = some old) (hf : W.frozen? ta = false) :
    (ReflectliteValue.set #[.agg #[.pointer (some ⟨7, 107, none⟩), .pointer (some ta), .int .u64 406], .agg #[.pointer (some ⟨7, 107, none⟩), .pointer (some b), .int .u64 150]]).run Tryz.prog W
      = .ok (.tuple #[]) (W.setCell ta (.pointer (some e))) := by
  rw [rls]
  simp only [Sem.run_bind, ea_partsFa, ea_partsF, Result.andThen]
  simp [ReflectliteValue.flagAddr, loadVar, isAgg, underlying, Tryz.underlying107, hb, Result.andThen, ea_directF, storeVar, Value.cells, storeCells, Addr.add]
  rw [run_store Tryz.prog W ta _ _ (by rfl)]
  simp [ht, hf]
theorem ea_setE (ta b : Addr) (n : Int) (old : Value) (W : World) (hb : W.cell? b = some (.int .i64 n)) (ht : W.cell? ta = some old) (hf : W.frozen? ta = false) :
    (ReflectliteValue.set #[.agg #[.pointer (some ⟨7, 42, none⟩), .pointer (some ta), .int .u64 386], .agg #[.pointer (some ⟨7, 42, none⟩), .pointer (some b), .int .u64 130]]).run Tryz.prog W
      = .ok (.tuple #[]) (W.setCell ta (.int .i64 n)) := by
  rw [rls]
  simp only [Sem.run_bind, ea_partsEa, ea_partsE, Result.andThen]
  simp [ReflectliteValue.flagAddr, loadVar, isAgg, underlying, Tryz.underlying42, hb, Result.andThen, ea_directE, storeVar, Value.cells, storeCells, Addr.add]
  rw [run_store Tryz.prog W ta _ _ (by rfl)]
  simp [ht, hf]

set_option maxHeartbeats 4000000 in
theorem as_hitF (e : Addr) (t : Addr) (old : Value) (w : World) (hg : w.cell? ⟨0, 0, none⟩ = some (.iface 162 (hnd 31))) (ht0 : w.cell? t = some old) (hf0 : w.frozen? t = false) :
    Calls Tryz.prog 52 #[.iface 107 (.pointer (some e)), .iface 109 (.pointer (some t))] w fun ev w' => ev = .returned (.bool true) ∧ w' = ((((w.alloc (.cells #[.pointer (some t)] 109)).alloc (.cells #[.pointer (some ⟨7, 109, none⟩), .pointer (some ⟨w.heap.size, 0, none⟩), .int .u64 150] 141)).alloc (.cells #[.pointer (some ⟨7, 109, none⟩), .pointer (some ⟨w.heap.size, 0, none⟩), .int .u64 150] 141)).alloc (.cells #[.pointer (some e)] 107)).setCell t (.pointer (some e)) := by
  have h_valueOf := @run_callFunc_extern Tryz.prog 80 _ (fun args => ReflectliteValue.unpack (args.getD 0 (.tuple #[]))) Tryz.func80 (by kernel_rfl) (by kernel_rfl) (by kernel_rfl) (by kernel_rfl)
  have h_type := @run_callFunc_extern Tryz.prog 81 _ (ReflectliteValue.methodAny (ReflectliteValue.valueError "reflectlite.Value.Type" 0) (fun t _ _ _ => ReflectliteType.toType t)) Tryz.func81 (by kernel_rfl) (by kernel_rfl) (by kernel_rfl) (by kernel_rfl)
  have h_isNil := @run_callFunc_extern Tryz.prog 82 _ (ReflectliteValue.method (ReflectliteValue.valueError "reflectlite.Value.IsNil" 0) ReflectliteValue.isNil) Tryz.func82 (by kernel_rfl) (by kernel_rfl) (by kernel_rfl) (by kernel_rfl)
  have h_kind := @run_callFunc_extern Tryz.prog 166 _ (ReflectliteType.abiMethod fun t => do pure (.int .u8 (← Rtype.kind t))) Tryz.func166 (by kernel_rfl) (by kernel_rfl) (by kernel_rfl) (by kernel_rfl)
  have h_relem := @run_callFunc_extern Tryz.prog 179 _ (ReflectliteType.method ReflectliteType.elem) Tryz.func179 (by kernel_rfl) (by kernel_rfl) (by kernel_rfl) (by kernel_rfl)
  have h_impl := @run_callFunc_extern Tryz.prog 180 _ (ReflectliteType.relation "Implements" ReflectliteType.implements_) Tryz.func180 (by kernel_rfl) (by kernel_rfl) (by kernel_rfl) (by kernel_rfl)
  have h_typeOf := @run_callFunc_extern Tryz.prog 62 _ ReflectliteType.typeOf Tryz.func62 (by kernel_rfl) (by kernel_rfl) (by kernel_rfl) (by kernel_rfl)
  have h_ass := @run_callFunc_extern Tryz.prog 177 _ (ReflectliteType.relation "AssignableTo" ReflectliteType.assignableTo) Tryz.func177 (by kernel_rfl) (by kernel_rfl) (by kernel_rfl) (by kernel_rfl)
  have h_velem := @run_callFunc_extern Tryz.prog 111 _ (ReflectliteValue.method (ReflectliteValue.valueError "reflectlite.Value.Elem" 0) ReflectliteValue.elem) Tryz.func111 (by kernel_rfl) (by kernel_rfl) (by kernel_rfl) (by kernel_rfl)
  have h_vset := @run_callFunc_extern Tryz.prog 112 _ ReflectliteValue.set Tryz.func112 (by kernel_rfl) (by kernel_rfl) (by kernel_rfl) (by kernel_rfl)
  have f_ea_typeOfF := ea_typeOfF
  have f_ea_methodAssignableTo := ea_methodAssignableTo
  have f_ea_assFF := ea_assFF
  have f_ea_valueOfPF := ea_valueOfPF
  have f_ea_typePF := ea_typePF
  have f_ea_methodKind := ea_methodKind
  have f_ea_methodElem := ea_methodElem
  have f_ea_methodImplements := ea_methodImplements
  have f_ea_kindPF := ea_kindPF
  have f_ea_kindF := ea_kindF
  have f_ea_elemPF := ea_elemPF
  have f_ea_implF := ea_implF
  have f_ea_valueOfF := ea_valueOfF
  have hlt : 0 < w.heap.size := World.block_lt_of_cell? w _ hg
  have htl : t.block < w.heap.size := World.block_lt_of_cell? w _ ht0
  have n8 := ea_isNilPF ⟨w.heap.size, 0, none⟩ t ((w.alloc (.cells #[.pointer (some t)] 109)).alloc (.cells #[.pointer (some ⟨7, 109, none⟩), .pointer (some ⟨w.heap.size, 0, none⟩), .int .u64 150] 141)) (by simp)
  have hg2 : ((w.alloc (.cells #[.pointer (some t)] 109)).alloc (.cells #[.pointer (some ⟨7, 109, none⟩), .pointer (some ⟨w.heap.size, 0, none⟩), .int .u64 150] 141)).cell? ⟨0, 0, none⟩ = some (.iface 162 (hnd 31)) := by
    rw [World.cell?_alloc_lt _ _ ⟨0, 0, none⟩ (by first | (simp; done) | (simp; omega)), World.cell?_alloc_lt _ _ ⟨0, 0, none⟩ hlt]; exact hg
  have el := ea_elemVPF ⟨w.heap.size, 0, none⟩ t (((w.alloc (.cells #[.pointer (some t)] 109)).alloc (.cells #[.pointer (some ⟨7, 109, none⟩), .pointer (some ⟨w.heap.size, 0, none⟩), .int .u64 150] 141)).alloc (.cells #[.pointer (some ⟨7, 109, none⟩), .pointer (some ⟨w.heap.size, 0, none⟩), .int .u64 150] 141)) (by rw [World.cell?_alloc_lt _ _ ⟨w.heap.size, 0, none⟩ (by simp; omega)]; simp)
  have st := ea_setF t ⟨w.heap.size + 1 + 1 + 1, 0, none⟩ e old ((((w.alloc (.cells #[.pointer (some t)] 109)).alloc (.cells #[.pointer (some ⟨7, 109, none⟩), .pointer (some ⟨w.heap.size, 0, none⟩), .int .u64 150] 141)).alloc (.cells #[.pointer (some ⟨7, 109, none⟩), .pointer (some ⟨w.heap.size, 0, none⟩), .int .u64 150] 141)).alloc (.cells #[.pointer (some e)] 107))
    (by rw [World.cell?_alloc_at _ _ _ _ (by simp)]; rfl)
    (by rw [World.cell?_alloc_lt _ _ t (by simp; omega), World.cell?_alloc_lt _ _ t (by simp; omega), World.cell?_alloc_lt _ _ t (by simp; omega), World.cell?_alloc_lt _ _ t htl]; exact ht0)
    (by rw [World.frozen?_alloc_old _ _ t (by simp; omega), World.frozen?_alloc_old _ _ t (by simp; omega), World.frozen?_alloc_old _ _ t (by simp; omega), World.frozen?_alloc_old _ _ t (Nat.ne_of_lt htl)]; exact hf0)
  go_enter Tryz.func52, Tryz.ntmps52
  go_wp2
  refine wp_loop_rounds 1 ?_
  rw [rounds_succ]
  go_wp2
  go_ret
  exact ⟨rfl, rfl⟩

set_option maxHeartbeats 4000000 in
theorem as_hitE (e : Int) (t : Addr) (old : Value) (w : World) (hg : w.cell? ⟨0, 0, none⟩ = some (.iface 162 (hnd 31))) (ht0 : w.cell? t = some old) (hf0 : w.frozen? t = false) :
    Calls Tryz.prog 52 #[.iface 42 (.int .i64 e), .iface 112 (.pointer (some t))] w fun ev w' => ev = .returned (.bool true) ∧ w' = ((((w.alloc (.cells #[.pointer (some t)] 112)).alloc (.cells #[.pointer (some ⟨7, 112, none⟩), .pointer (some ⟨w.heap.size, 0, none⟩), .int .u64 150] 141)).alloc (.cells #[.pointer (some ⟨7, 112, none⟩), .pointer (some ⟨w.heap.size, 0, none⟩), .int .u64 150] 141)).alloc (.cells #[.int .i64 e] 42)).setCell t (.int .i64 e) := by
  have h_valueOf := @run_callFunc_extern Tryz.prog 80 _ (fun args => ReflectliteValue.unpack (args.getD 0 (.tuple #[]))) Tryz.func80 (by kernel_rfl) (by kernel_rfl) (by kernel_rfl) (by kernel_rfl)
  have h_type := @run_callFunc_extern Tryz.prog 81 _ (ReflectliteValue.methodAny (ReflectliteValue.valueError "reflectlite.Value.Type" 0) (fun t _ _ _ => ReflectliteType.toType t)) Tryz.func81 (by kernel_rfl) (by kernel_rfl) (by kernel_rfl) (by kernel_rfl)
  have h_isNil := @run_callFunc_extern Tryz.prog 82 _ (ReflectliteValue.method (ReflectliteValue.valueError "reflectlite.Value.IsNil" 0) ReflectliteValue.isNil) Tryz.func82 (by kernel_rfl) (by kernel_rfl) (by kernel_rfl) (by kernel_rfl)
  have h_kind := @run_callFunc_extern Tryz.prog 166 _ (ReflectliteType.abiMethod fun t => do pure (.int .u8 (← Rtype.kind t))) Tryz.func166 (by kernel_rfl) (by kernel_rfl) (by kernel_rfl) (by kernel_rfl)
  have h_relem := @run_callFunc_extern Tryz.prog 179 _ (ReflectliteType.method ReflectliteType.elem) Tryz.func179 (by kernel_rfl) (by kernel_rfl) (by kernel_rfl) (by kernel_rfl)
  have h_impl := @run_callFunc_extern Tryz.prog 180 _ (ReflectliteType.relation "Implements" ReflectliteType.implements_) Tryz.func180 (by kernel_rfl) (by kernel_rfl) (by kernel_rfl) (by kernel_rfl)
  have h_typeOf := @run_callFunc_extern Tryz.prog 62 _ ReflectliteType.typeOf Tryz.func62 (by kernel_rfl) (by kernel_rfl) (by kernel_rfl) (by kernel_rfl)
  have h_ass := @run_callFunc_extern Tryz.prog 177 _ (ReflectliteType.relation "AssignableTo" ReflectliteType.assignableTo) Tryz.func177 (by kernel_rfl) (by kernel_rfl) (by kernel_rfl) (by kernel_rfl)
  have h_velem := @run_callFunc_extern Tryz.prog 111 _ (ReflectliteValue.method (ReflectliteValue.valueError "reflectlite.Value.Elem" 0) ReflectliteValue.elem) Tryz.func111 (by kernel_rfl) (by kernel_rfl) (by kernel_rfl) (by kernel_rfl)
  have h_vset := @run_callFunc_extern Tryz.prog 112 _ ReflectliteValue.set Tryz.func112 (by kernel_rfl) (by kernel_rfl) (by kernel_rfl) (by kernel_rfl)
  have f_ea_typeOfE := ea_typeOfE
  have f_ea_methodAssignableTo := ea_methodAssignableTo
  have f_ea_assEE := ea_assEE
  have f_ea_valueOfPE := ea_valueOfPE
  have f_ea_typePE := ea_typePE
  have f_ea_methodKind := ea_methodKind
  have f_ea_methodElem := ea_methodElem
  have f_ea_methodImplements := ea_methodImplements
  have f_ea_kindPE := ea_kindPE
  have f_ea_kindE := ea_kindE
  have f_ea_elemPE := ea_elemPE
  have f_ea_implE := ea_implE
  have f_ea_valueOfE := ea_valueOfE
  have hlt : 0 < w.heap.size := World.block_lt_of_cell? w _ hg
  have htl : t.block < w.heap.size := World.block_lt_of_cell? w _ ht0
  have n8 := ea_isNilPE ⟨w.heap.size, 0, none⟩ t ((w.alloc (.cells #[.pointer (some t)] 112)).alloc (.cells #[.pointer (some ⟨7, 112, none⟩), .pointer (some ⟨w.heap.size, 0, none⟩), .int .u64 150] 141)) (by simp)
  have hg2 : ((w.alloc (.cells #[.pointer (some t)] 112)).alloc (.cells #[.pointer (some ⟨7, 112, none⟩), .pointer (some ⟨w.heap.size, 0, none⟩), .int .u64 150] 141)).cell? ⟨0, 0, none⟩ = some (.iface 162 (hnd 31)) := by
    rw [World.cell?_alloc_lt _ _ ⟨0, 0, none⟩ (by first | (simp; done) | (simp; omega)), World.cell?_alloc_lt _ _ ⟨0, 0, none⟩ hlt]; exact hg
  have el := ea_elemVPE ⟨w.heap.size, 0, none⟩ t (((w.alloc (.cells #[.pointer (some t)] 112)).alloc (.cells #[.pointer (some ⟨7, 112, none⟩), .pointer (some ⟨w.heap.size, 0, none⟩), .int .u64 150] 141)).alloc (.cells #[.pointer (some ⟨7, 112, none⟩), .pointer (some ⟨w.heap.size, 0, none⟩), .int .u64 150] 141)) (by rw [World.cell?_alloc_lt _ _ ⟨w.heap.size, 0, none⟩ (by simp; omega)]; simp)
  have st := ea_setE t ⟨w.heap.size + 1 + 1 + 1, 0, none⟩ e old ((((w.alloc (.cells #[.pointer (some t)] 112)).alloc (.cells #[.pointer (some ⟨7, 112, none⟩), .pointer (some ⟨w.heap.size, 0, none⟩), .int .u64 150] 141)).alloc (.cells #[.pointer (some ⟨7, 112, none⟩), .pointer (some ⟨w.heap.size, 0, none⟩), .int .u64 150] 141)).alloc (.cells #[.int .i64 e] 42))
    (by rw [World.cell?_alloc_at _ _ _ _ (by simp)]; rfl)
    (by rw [World.cell?_alloc_lt _ _ t (by simp; omega), World.cell?_alloc_lt _ _ t (by simp; omega), World.cell?_alloc_lt _ _ t (by simp; omega), World.cell?_alloc_lt _ _ t htl]; exact ht0)
    (by rw [World.frozen?_alloc_old _ _ t (by simp; omega), World.frozen?_alloc_old _ _ t (by simp; omega), World.frozen?_alloc_old _ _ t (by simp; omega), World.frozen?_alloc_old _ _ t (Nat.ne_of_lt htl)]; exact hf0)
  go_enter Tryz.func52, Tryz.ntmps52
  go_wp2
  refine wp_loop_rounds 1 ?_
  rw [rounds_succ]
  go_wp2
  go_ret
  exact ⟨rfl, rfl⟩

theorem ea_noAsE (v : Value) (xT : TypeId) (w : World) : (Instr.typeAssert (.iface 42 v) xT 188 true).run Tryz.prog w = .ok (.tuple #[.nilIface, .bool false]) w :=
  run_typeAssert_lacksB Tryz.underlying188 (by kernel_rfl) (by kernel_rfl) v xT w
theorem ea_noUnE (v : Value) (xT : TypeId) (w : World) : (Instr.typeAssert (.iface 42 v) xT 167 true).run Tryz.prog w = .ok (.tuple #[.nilIface, .bool false]) w :=
  run_typeAssert_lacksB Tryz.underlying167 (by kernel_rfl) (by kernel_rfl) v xT w
theorem ea_noUmE (v : Value) (xT : TypeId) (w : World) : (Instr.typeAssert (.iface 42 v) xT 168 true).run Tryz.prog w = .ok (.tuple #[.nilIface, .bool false]) w :=
  run_typeAssert_lacksB Tryz.underlying168 (by kernel_rfl) (by kernel_rfl) v xT w

set_option maxRecDepth 100000 in
set_option maxHeartbeats 4000000 in
theorem as_missEF (e : Int) (t : Addr) (old : Value) (w : World) (hg : w.cell? ⟨0, 0, none⟩ = some (.iface 162 (hnd 31))) (ht0 : w.cell? t = some old) (hf0 : w.frozen? t = false) :
    Calls Tryz.prog 52 #[.iface 42 (.int .i64 e), .iface 109 (.pointer (some t))] w fun ev w' => ev = .returned (.bool false) ∧ w' = (((w.alloc (.cells #[.pointer (some t)] 109)).alloc (.cells #[.pointer (some ⟨7, 109, none⟩), .pointer (some ⟨w.heap.size, 0, none⟩), .int .u64 150] 141)).alloc (.cells #[.pointer (some ⟨7, 109, none⟩), .pointer (some ⟨w.heap.size, 0, none⟩), .int .u64 150] 141)) := by
  have h_valueOf := @run_callFunc_extern Tryz.prog 80 _ (fun args => ReflectliteValue.unpack (args.getD 0 (.tuple #[]))) Tryz.func80 (by kernel_rfl) (by kernel_rfl) (by kernel_rfl) (by kernel_rfl)
  have h_type := @run_callFunc_extern Tryz.prog 81 _ (ReflectliteValue.methodAny (ReflectliteValue.valueError "reflectlite.Value.Type" 0) (fun t _ _ _ => ReflectliteType.toType t)) Tryz.func81 (by kernel_rfl) (by kernel_rfl) (by kernel_rfl) (by kernel_rfl)
  have h_isNil := @run_callFunc_extern Tryz.prog 82 _ (ReflectliteValue.method (ReflectliteValue.valueError "reflectlite.Value.IsNil" 0) ReflectliteValue.isNil) Tryz.func82 (by kernel_rfl) (by kernel_rfl) (by kernel_rfl) (by kernel_rfl)
  have h_kind := @run_callFunc_extern Tryz.prog 166 _ (ReflectliteType.abiMethod fun t => do pure (.int .u8 (← Rtype.kind t))) Tryz.func166 (by kernel_rfl) (by kernel_rfl) (by kernel_rfl) (by kernel_rfl)
  have h_relem := @run_callFunc_extern Tryz.prog 179 _ (ReflectliteType.method ReflectliteType.elem) Tryz.func179 (by kernel_rfl) (by kernel_rfl) (by kernel_rfl) (by kernel_rfl)
  have h_impl := @run_callFunc_extern Tryz.prog 180 _ (ReflectliteType.relation "Implements" ReflectliteType.implements_) Tryz.func180 (by kernel_rfl) (by kernel_rfl) (by kernel_rfl) (by kernel_rfl)
  have h_typeOf := @run_callFunc_extern Tryz.prog 62 _ ReflectliteType.typeOf Tryz.func62 (by kernel_rfl) (by kernel_rfl) (by kernel_rfl) (by kernel_rfl)
  have h_ass := @run_callFunc_extern Tryz.prog 177 _ (ReflectliteType.relation "AssignableTo" ReflectliteType.assignableTo) Tryz.func177 (by kernel_rfl) (by kernel_rfl) (by kernel_rfl) (by kernel_rfl)
  have h_velem := @run_callFunc_extern Tryz.prog 111 _ (ReflectliteValue.method (ReflectliteValue.valueError "reflectlite.Value.Elem" 0) ReflectliteValue.elem) Tryz.func111 (by kernel_rfl) (by kernel_rfl) (by kernel_rfl) (by kernel_rfl)
  have h_vset := @run_callFunc_extern Tryz.prog 112 _ ReflectliteValue.set Tryz.func112 (by kernel_rfl) (by kernel_rfl) (by kernel_rfl) (by kernel_rfl)
  have f_ea_typeOfE := ea_typeOfE
  have f_na := ea_noAsE
  have f_nu := ea_noUnE
  have f_nm := ea_noUmE
  have f_ea_methodAssignableTo := ea_methodAssignableTo
  have f_ea_assEF := ea_assEF
  have f_ea_valueOfPF := ea_valueOfPF
  have f_ea_typePF := ea_typePF
  have f_ea_methodKind := ea_methodKind
  have f_ea_methodElem := ea_methodElem
  have f_ea_methodImplements := ea_methodImplements
  have f_ea_kindPF := ea_kindPF
  have f_ea_kindF := ea_kindF
  have f_ea_elemPF := ea_elemPF
  have f_ea_implF := ea_implF
  have hlt : 0 < w.heap.size := World.block_lt_of_cell? w _ hg
  have htl : t.block < w.heap.size := World.block_lt_of_cell? w _ ht0
  have n8 := ea_isNilPF ⟨w.heap.size, 0, none⟩ t ((w.alloc (.cells #[.pointer (some t)] 109)).alloc (.cells #[.pointer (some ⟨7, 109, none⟩), .pointer (some ⟨w.heap.size, 0, none⟩), .int .u64 150] 141)) (by simp)
  have hg2 : ((w.alloc (.cells #[.pointer (some t)] 109)).alloc (.cells #[.pointer (some ⟨7, 109, none⟩), .pointer (some ⟨w.heap.size, 0, none⟩), .int .u64 150] 141)).cell? ⟨0, 0, none⟩ = some (.iface 162 (hnd 31)) := by
    rw [World.cell?_alloc_lt _ _ ⟨0, 0, none⟩ (by first | (simp; done) | (simp; omega)), World.cell?_alloc_lt _ _ ⟨0, 0, none⟩ hlt]; exact hg
  go_enter Tryz.func52, Tryz.ntmps52
  go_wp2
  refine wp_loop_rounds 1 ?_
  rw [rounds_succ]
  go_wp2
  go_ret
  exact ⟨rfl, rfl⟩

end Go.Proofs.YthokoimoiamddaaGreatDoor
set_option linter.unusedSimpArgs false
set_option linter.unusedVariables false
namespace Go.Proofs.YthokoimoiamddaaGreatDoor
open Go.RowKit

/-- The package variable errors.errorType holds error's handle. -/
def ErrT (w : World) : Prop := w.cell? ⟨0, 0, none⟩ = some (.iface 162 (hnd 31))
theorem ErrT.below {w w' : World} (h : ErrT w) (hb : Below w.heap.size w w') : ErrT w' := (hb.cell (World.block_lt_of_cell? w _ h)).trans h
theorem ErrT.at_ {B : Nat} {w w' : World} (h : ErrT w) (hB : B = w.heap.size) (hb : Below B w w') : ErrT w' := h.below (hB ▸ hb)

theorem bchain {w a b : World} (h : Below w.heap.size w a) (k : Below a.heap.size a b) : Below w.heap.size w b := h.trans (k.mono h.size)
theorem eSet {B b i : Nat} {a w : World} (h : Below B a w) (hb : B ≤ b) (v : Value) : Below B a (w.setCell ⟨b, i, none⟩ v) := h.setCell (p := ⟨b, i, none⟩) hb v

set_option maxRecDepth 100000 in
set_option maxHeartbeats 1000000 in
theorem of_errno (n : Int) (w : World) (hg : ErrT w) :
    Calls Tryz.prog 32 #[.iface 42 (.int .i64 n)] w fun e w' => e = .returned (.agg #[.bool true, .slice none 0 0, .int .i64 n]) ∧ Below w.heap.size w w' := by
  have HG := Lib.hid hg
  clear hg
  go_enter Tryz.func32, Tryz.ntmps32
  go_wp2
  refine wp_loop_rounds 1 ?_
  rw [rounds_succ]
  go_wp2_with fail
  refine (as_missEF n _ (.pointer none) _ ?_ ?_ ?_).mono ?_
  · exact HG.out.below ((((Below.refl _ _).alloc (Nat.le_refl _) _).alloc (by simp) _).alloc (by simp; omega) _)
  · rw [World.cell?_alloc_at _ _ _ _ (by simp)]; rfl
  · rw [World.frozen?_alloc_at _ _ _ _ (by simp)]
  rintro e w' ⟨rfl, rfl⟩
  go_wp2_with fail
  refine (as_hitE n _ (.int .i64 0) _ ?_ ?_ ?_).mono ?_
  · refine HG.out.below ?_
    repeat (first | with_reducible exact Below.refl _ _ | refine Below.alloc ?_ (by first | (simp; done) | (simp; omega)) _)
  · rw [World.cell?_alloc_at _ _ _ _ (by simp)]; rfl
  · rw [World.frozen?_alloc_at _ _ _ _ (by simp)]
  rintro e w' ⟨rfl, rfl⟩
  go_wp2
  refine bodyPost_ret (v := .agg #[.bool true, .slice none 0 0, .int .i64 n]) ?_ rfl ?_
  · simp [results, Tryz.results32, go_sem]
  · refine ⟨rfl, ?_⟩

    repeat (first | with_reducible exact Below.refl _ _ | with_reducible refine eSet ?_ (by first | (simp; done) | (simp; omega)) _ | refine Below.alloc ?_ (by first | (simp; done) | (simp; omega)) _)

theorem n_any (n : Int) (w : World) : Calls Tryz.prog 17 #[.int .i64 n] w fun e w' => e = .returned (.agg #[.bool true, .slice none 0 0, .int .i64 n]) ∧ Below w.heap.size w w' := by
  go_enter Tryz.func17, Tryz.ntmps17
  go_wp2
  refine bodyPost_ret (v := .agg #[.bool true, .slice none 0 0, .int .i64 n]) ?_ rfl ?_
  · simp [results, Tryz.results17, go_sem]
  · exact ⟨rfl, (Below.refl _ _).alloc (Nat.le_refl _) _⟩

set_option maxHeartbeats 1000000 in
theorem same_plain (n m : Int) (w : World) : Calls Tryz.prog 31 #[.agg #[.bool true, .slice none 0 0, .int .i64 n], .agg #[.bool true, .slice none 0 0, .int .i64 m]] w
    fun e w' => e = .returned (.bool (decide (n = m))) ∧ Below w.heap.size w w' := by
  have hb : Below w.heap.size w ((w.alloc (.cells #[.bool true, .slice none 0 0, .int .i64 n] 44)).alloc (.cells #[.bool true, .slice none 0 0, .int .i64 m] 44)) := ((Below.refl _ _).alloc (Nat.le_refl _) _).alloc (by simp) _
  by_cases h : n = m
  · subst h
    rw [decide_eq_true rfl]
    go_enter Tryz.func31, Tryz.ntmps31
    go_wp2
    refine wp_loop_rounds 1 ?_
    rw [rounds_succ]
    go_wp2
    go_ret
    exact ⟨rfl, hb⟩
  · rw [decide_eq_false h]
    have h1 : (n != m) = true := by simpa using h
    have h2 : (n == m) = false := by simpa using h
    clear h
    go_enter Tryz.func31, Tryz.ntmps31
    go_wp2
    go_ret
    exact ⟨rfl, hb⟩

set_option maxHeartbeats 1000000 in
theorem fails_plain (n m : Int) (w : World) (hg : ErrT w) : Calls Tryz.prog 16 #[.iface 42 (.int .i64 n), .agg #[.bool true, .slice none 0 0, .int .i64 m]] w
    fun e w' => e = .returned (.bool (decide (n = m))) ∧ Below w.heap.size w w' := by
  have hb : Below w.heap.size w (w.alloc (.cells #[.bool true, .slice none 0 0, .int .i64 m] 44)) := (Below.refl _ _).alloc (Nat.le_refl _) _
  have HG : Hid (ErrT (w.alloc (.cells #[.bool true, .slice none 0 0, .int .i64 m] 44))) := hg.below hb
  have HB := Lib.hid hb
  clear hg hb
  go_enter Tryz.func16, Tryz.ntmps16
  go_wp2_with fail
  go_region_with (first
    | (go_at_call 32; refine (of_errno n _ ?_).mono ?_; (exact HG.out); rintro e w1 ⟨rfl, hb1⟩; have hb1' := Lib.hid hb1; have q0 : w1.cell? ⟨w.heap.size, 0, none⟩ = some (.bool true) := (hb1.cell (p := ⟨w.heap.size, 0, none⟩) (by simp)).trans (by simp); have q1 : w1.cell? ⟨w.heap.size, 1, none⟩ = some (.slice none 0 0) := (hb1.cell (p := ⟨w.heap.size, 1, none⟩) (by simp)).trans (by simp); have q2 : w1.cell? ⟨w.heap.size, 2, none⟩ = some (.int .i64 m) := (hb1.cell (p := ⟨w.heap.size, 2, none⟩) (by simp)).trans (by simp); clear hb1)
    | (go_at_call 31; refine (same_plain n m _).mono ?_; rintro e w2 ⟨rfl, hb2⟩))
  all_goals
    go_wp2
    go_ret
    exact ⟨rfl, bchain (bchain HB.out.drew hb1'.out) hb2⟩
end Go.Proofs.YthokoimoiamddaaGreatDoor
