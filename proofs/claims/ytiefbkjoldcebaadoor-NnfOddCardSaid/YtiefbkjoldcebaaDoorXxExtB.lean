/- errors.As at a target *Errno: after the guide's worked text on errors.As. -/
import Derived.Test.YtiefbkjoldcebaaDoorXxSeatD
import Derived.WalkKit
import Derived.LaidEql
import Derived.Stop.Asserts
import Derived.RowKitTokens
namespace Go.Proofs
open Go.RowKit Go.Extern.Stop Go.Stop Go.Extern

theorem Tryd.as_nil (t : Value) (w : World) : Calls Tryd.prog 29 #[.nilIface, t] w fun e w' => e = .returned (.bool false) ∧ w' = w := by
  go_enter Tryd.func29, Tryd.ntmps29
  go_wp2
  go_ret
  exact ⟨rfl, rfl⟩
theorem Tryd.valueOf85 (t : Addr) (w : World) : (ReflectliteValue.unpack (.iface 85 (.pointer (some t)))).run Tryd.prog w
    = .ok (.agg #[.pointer (some ⟨5, 85, none⟩), .pointer (some ⟨w.heap.size, 0, none⟩), .int .u64 150]) (w.alloc (.cells #[.pointer (some t)] 85)) := by kernel_rfl
theorem Tryd.vtype85 (a : Addr) (w : World) : (ReflectliteValue.methodAny (ReflectliteValue.valueError "reflectlite.Value.Type" 0) (fun t _ _ _ => ReflectliteType.toType t) #[.agg #[.pointer (some ⟨5, 85, none⟩), .pointer (some a), .int .u64 150]]).run Tryd.prog w
    = .ok (.iface 155 (.agg #[.pointer (some ⟨5, 85, none⟩)])) w := by kernel_rfl
theorem Tryd.methodKind (h : Value) (w : World) : (Go.method 345 155 (.agg #[h]) "Kind").run Tryd.prog w = .ok (133, h) w := by kernel_rfl
theorem Tryd.kind85 (w : World) : ((ReflectliteType.abiMethod fun t => (fun a : Nat => Value.int IntKind.u8 (a : Int)) <$> Rtype.kind t) #[.pointer (some ⟨5, 85, none⟩)]).run Tryd.prog w = .ok (.int .u8 22) w := by kernel_rfl
theorem Tryd.kind77 (w : World) : ((ReflectliteType.abiMethod fun t => (fun a : Nat => Value.int IntKind.u8 (a : Int)) <$> Rtype.kind t) #[.pointer (some ⟨5, 77, none⟩)]).run Tryd.prog w = .ok (.int .u8 2) w := by kernel_rfl
theorem Tryd.rlm (z : Sem Value) (f : TypeId → Addr → Nat → Nat → Sem Value) (v : Value) :
    ReflectliteValue.method z f #[v] = (do match ← ReflectliteValue.parts v with | none => z | some (t, a, fl) => f t a fl (fl % 32)) := rfl
theorem Tryd.parts85 (a : Addr) (w : World) : (ReflectliteValue.parts (.agg #[.pointer (some ⟨5, 85, none⟩), .pointer (some a), .int .u64 150])).run Tryd.prog w = .ok (some (85, a, 150)) w := by kernel_rfl
theorem Tryd.isNil85 (a p : Addr) (W : World) (ha : W.cell? a = some (.pointer (some p))) :
    (ReflectliteValue.method (ReflectliteValue.valueError "reflectlite.Value.IsNil" 0) ReflectliteValue.isNil #[.agg #[.pointer (some ⟨5, 85, none⟩), .pointer (some a), .int .u64 150]]).run Tryd.prog W = .ok (.bool false) W := by
  rw [Tryd.rlm]
  simp only [Sem.run_bind, Tryd.parts85, Result.andThen]
  simp [ReflectliteValue.isNil, loadVar, isAgg, underlying, Tryd.underlying85, ha, Result.andThen]
theorem Tryd.methodElem (h : Value) (w : World) : (Go.method 345 155 (.agg #[h]) "Elem").run Tryd.prog w = .ok (146, .agg #[h]) w := by kernel_rfl
theorem Tryd.methodImplements (h : Value) (w : World) : (Go.method 345 155 (.agg #[h]) "Implements").run Tryd.prog w = .ok (147, .agg #[h]) w := by kernel_rfl
theorem Tryd.methodAssignableTo (h : Value) (w : World) : (Go.method 345 155 (.agg #[h]) "AssignableTo").run Tryd.prog w = .ok (144, .agg #[h]) w := by kernel_rfl
theorem Tryd.elem85 (w : World) : (ReflectliteType.method ReflectliteType.elem #[.agg #[.pointer (some ⟨5, 85, none⟩)]]).run Tryd.prog w = .ok (.iface 155 (.agg #[.pointer (some ⟨5, 77, none⟩)])) w := by kernel_rfl
theorem Tryd.implements77 (w : World) : (ReflectliteType.relation "Implements" ReflectliteType.implements_ #[.agg #[.pointer (some ⟨5, 77, none⟩)], .iface 155 (.agg #[.pointer (some ⟨5, 28, none⟩)])]).run Tryd.prog w = .ok (.bool true) w := by kernel_rfl
theorem Tryd.typeOf77 (v : Value) (w : World) : (ReflectliteType.typeOf #[.iface 77 v]).run Tryd.prog w = .ok (.iface 155 (.agg #[.pointer (some ⟨5, 77, none⟩)])) w := by kernel_rfl
theorem Tryd.typeOf116 (v : Value) (w : World) : (ReflectliteType.typeOf #[.iface 116 v]).run Tryd.prog w = .ok (.iface 155 (.agg #[.pointer (some ⟨5, 116, none⟩)])) w := by kernel_rfl
theorem Tryd.assignable77 (w : World) : (ReflectliteType.relation "AssignableTo" ReflectliteType.assignableTo #[.agg #[.pointer (some ⟨5, 77, none⟩)], .iface 155 (.agg #[.pointer (some ⟨5, 77, none⟩)])]).run Tryd.prog w = .ok (.bool true) w := by kernel_rfl
theorem Tryd.assignable116 (w : World) : (ReflectliteType.relation "AssignableTo" ReflectliteType.assignableTo #[.agg #[.pointer (some ⟨5, 116, none⟩)], .iface 155 (.agg #[.pointer (some ⟨5, 77, none⟩)])]).run Tryd.prog w = .ok (.bool false) w := by kernel_rfl
theorem Tryd.valueOf77 (n : Int) (w : World) : (ReflectliteValue.unpack (.iface 77 (.int .i64 n))).run Tryd.prog w
    = .ok (.agg #[.pointer (some ⟨5, 77, none⟩), .pointer (some ⟨w.heap.size, 0, none⟩), .int .u64 130]) (w.alloc (.cells #[.int .i64 n] 77)) := by kernel_rfl
theorem Tryd.elemOf85 (w : World) : (Rtype.elem? 85).run Tryd.prog w = .ok (some 77) w := by kernel_rfl
theorem Tryd.mk77 (p : Addr) (w : World) : (ReflectliteValue.mk 77 p ReflectliteValue.flagAddr).run Tryd.prog w = .ok (.agg #[.pointer (some ⟨5, 77, none⟩), .pointer (some p), .int .u64 386]) w := by kernel_rfl
theorem Tryd.elemV85 (a p : Addr) (W : World) (ha : W.cell? a = some (.pointer (some p))) :
    (ReflectliteValue.method (ReflectliteValue.valueError "reflectlite.Value.Elem" 0) ReflectliteValue.elem #[.agg #[.pointer (some ⟨5, 85, none⟩), .pointer (some a), .int .u64 150]]).run Tryd.prog W
      = .ok (.agg #[.pointer (some ⟨5, 77, none⟩), .pointer (some p), .int .u64 386]) W := by
  rw [Tryd.rlm]
  simp only [Sem.run_bind, Tryd.parts85, Result.andThen]
  simp [ReflectliteValue.elem, loadVar, isAgg, underlying, Tryd.underlying85, ha, Result.andThen, Tryd.elemOf85, Tryd.mk77]
theorem Tryd.rls (v x : Value) : ReflectliteValue.set #[v, x] = (do
    let (some (dst, a, fl), some (src, b, _)) := (← ReflectliteValue.parts v, ← ReflectliteValue.parts x)
      | unsupported (.noEntry "extern/(internal/reflectlite.Value).Set.zeroValue")
    if fl / ReflectliteValue.flagAddr % 2 == 0 then unsupported (.noEntry "extern/(internal/reflectlite.Value).Set.unaddressable")
    let val ← loadVar src b
    if ← Rtype.directlyAssignable dst src then storeVar dst a val
    else if ← Rtype.implements dst src then
      if (← Rtype.kind src) == 20 then
        match val with
        | .nilIface => unsupported (.noEntry "extern/reflectlite: a nil value of one interface type handed on as a value of another")
        | _ => storeVar dst a val
      else storeVar dst a (.iface src val)
    else panicString ("reflectlite.Set: value of type " ++ (← Rtype.spelt src) ++ " is not assignable to type " ++ (← Rtype.spelt dst))
    pure (.tuple #[])) := rfl
theorem Tryd.parts77a (a : Addr) (w : World) : (ReflectliteValue.parts (.agg #[.pointer (some ⟨5, 77, none⟩), .pointer (some a), .int .u64 386])).run Tryd.prog w = .ok (some (77, a, 386)) w := by kernel_rfl
theorem Tryd.parts77 (a : Addr) (w : World) : (ReflectliteValue.parts (.agg #[.pointer (some ⟨5, 77, none⟩), .pointer (some a), .int .u64 130])).run Tryd.prog w = .ok (some (77, a, 130)) w := by kernel_rfl
theorem Tryd.direct77 (w : World) : (Rtype.directlyAssignable 77 77).run Tryd.prog w = .ok true w := by kernel_rfl
theorem Tryd.size77 (w : World) : (sizeOf 77).run Tryd.prog w = .ok 1 w := by kernel_rfl
theorem Tryd.set77 (ta b : Addr) (n : Int) (old : Value) (W : World) (hb : W.cell? b = some (.int .i64 n)) (ht : W.cell? ta = some old) (hf : W.frozen? ta = false) :
    (ReflectliteValue.set #[.agg #[.pointer (some ⟨5, 77, none⟩), .pointer (some ta), .int .u64 386], .agg #[.pointer (some ⟨5, 77, none⟩), .pointer (some b), .int .u64 130]]).run Tryd.prog W
      = .ok (.tuple #[]) (W.setCell ta (.int .i64 n)) := by
  rw [Tryd.rls]
  simp only [Sem.run_bind, Tryd.parts77a, Tryd.parts77, Result.andThen]
  simp [ReflectliteValue.flagAddr, loadVar, isAgg, underlying, Tryd.underlying77, hb, Result.andThen, Tryd.direct77, storeVar, Value.cells, storeCells, Addr.add]
  rw [run_store Tryd.prog W ta _ _ (by rfl)]
  simp [ht, hf]
end Go.Proofs
