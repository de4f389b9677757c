/- errors.As at an error that wraps one. -/
import Derived.Test.YtiefbkjoldcebaaDoorXxExtC
namespace Go.Proofs
open Go.RowKit Go.Extern.Stop Go.Stop Go.Extern

theorem Tryd.noAs116 (v : Value) (w : World) : (Instr.typeAssert (.iface 116 v) 28 160 true).run Tryd.prog w = .ok (.tuple #[.nilIface, .bool false]) w := run_typeAssert_lacksB Tryd.underlying160 (by kernel_rfl) (by kernel_rfl) v 28 w
theorem Tryd.hasUnwrap116 (v : Value) (w : World) : (Instr.typeAssert (.iface 116 v) 28 163 true).run Tryd.prog w = .ok (.tuple #[.iface 116 v, .bool true]) w := run_typeAssert_hasB Tryd.underlying163 (by kernel_rfl) v 28 w
theorem Tryd.unwrap (k base : Nat) (e : Value) (w : World) (hc : w.cell? ⟨k, base + 1, none⟩ = some e) : Calls Tryd.prog 138 #[.pointer (some ⟨k, base, none⟩)] w fun ev w' => ev = .returned e ∧ w' = w := by
  go_enter Tryd.func138, Tryd.ntmps138
  go_wp2
  go_ret
  exact ⟨rfl, rfl⟩

theorem Tryd.methodUnwrap (v : Value) (w : World) : (Go.method 345 116 v "Unwrap").run Tryd.prog w = .ok (138, v) w := by kernel_rfl
set_option maxRecDepth 100000 in
set_option maxHeartbeats 4000000 in
theorem Tryd.as_at (n : Int) (k base : Nat) (t : Addr) (old : Value) (w : World) (hg : w.cell? ⟨0, 0, none⟩ = some (.iface 155 (.agg #[.pointer (some ⟨5, 28, none⟩)]))) (ht0 : w.cell? t = some old) (hf0 : w.frozen? t = false)
    (hc : w.cell? ⟨k, base + 1, none⟩ = some (.iface 77 (.int .i64 n))) :
    Calls Tryd.prog 29 #[.iface 116 (.pointer (some ⟨k, base, none⟩)), .iface 85 (.pointer (some t))] w fun ev w' => ev = .returned (.bool true) ∧ w' = ((((w.alloc (.cells #[.pointer (some t)] 85)).alloc (.cells #[.pointer (some ⟨5, 85, none⟩), .pointer (some ⟨w.heap.size, 0, none⟩), .int .u64 150] 126)).alloc (.cells #[.pointer (some ⟨5, 85, none⟩), .pointer (some ⟨w.heap.size, 0, none⟩), .int .u64 150] 126)).alloc (.cells #[.int .i64 n] 77)).setCell t (.int .i64 n) := by
  have h6 := @run_callFunc_extern Tryd.prog 53 _ (fun args => ReflectliteValue.unpack (args.getD 0 (.tuple #[]))) Tryd.func53 (by kernel_rfl) (by kernel_rfl) (by kernel_rfl) (by kernel_rfl)
  have h7 := @run_callFunc_extern Tryd.prog 54 _ (ReflectliteValue.methodAny (ReflectliteValue.valueError "reflectlite.Value.Type" 0) (fun t _ _ _ => ReflectliteType.toType t)) Tryd.func54 (by kernel_rfl) (by kernel_rfl) (by kernel_rfl) (by kernel_rfl)
  have h8 := @run_callFunc_extern Tryd.prog 55 _ (ReflectliteValue.method (ReflectliteValue.valueError "reflectlite.Value.IsNil" 0) ReflectliteValue.isNil) Tryd.func55 (by kernel_rfl) (by kernel_rfl) (by kernel_rfl) (by kernel_rfl)
  have h27 := @run_callFunc_extern Tryd.prog 133 _ (ReflectliteType.abiMethod fun t => do pure (.int .u8 (← Rtype.kind t))) Tryd.func133 (by kernel_rfl) (by kernel_rfl) (by kernel_rfl) (by kernel_rfl)
  have h37 := @run_callFunc_extern Tryd.prog 146 _ (ReflectliteType.method ReflectliteType.elem) Tryd.func146 (by kernel_rfl) (by kernel_rfl) (by kernel_rfl) (by kernel_rfl)
  have h38 := @run_callFunc_extern Tryd.prog 147 _ (ReflectliteType.relation "Implements" ReflectliteType.implements_) Tryd.func147 (by kernel_rfl) (by kernel_rfl) (by kernel_rfl) (by kernel_rfl)
  have h10 := @run_callFunc_extern Tryd.prog 69 _ ReflectliteType.typeOf Tryd.func69 (by kernel_rfl) (by kernel_rfl) (by kernel_rfl) (by kernel_rfl)
  have h35 := @run_callFunc_extern Tryd.prog 144 _ (ReflectliteType.relation "AssignableTo" ReflectliteType.assignableTo) Tryd.func144 (by kernel_rfl) (by kernel_rfl) (by kernel_rfl) (by kernel_rfl)
  have h11 := @run_callFunc_extern Tryd.prog 70 _ (ReflectliteValue.method (ReflectliteValue.valueError "reflectlite.Value.Elem" 0) ReflectliteValue.elem) Tryd.func70 (by kernel_rfl) (by kernel_rfl) (by kernel_rfl) (by kernel_rfl)
  have h12 := @run_callFunc_extern Tryd.prog 71 _ ReflectliteValue.set Tryd.func71 (by kernel_rfl) (by kernel_rfl) (by kernel_rfl) (by kernel_rfl)
  have tO := Tryd.typeOf77
  have tP := Tryd.typeOf116
  have mA := Tryd.methodAssignableTo
  have a25 := Tryd.assignable77
  have a26 := Tryd.assignable116
  have v25 := Tryd.valueOf77
  have f6 := Tryd.valueOf85
  have f7 := Tryd.vtype85
  have mK := Tryd.methodKind
  have mE := Tryd.methodElem
  have mI := Tryd.methodImplements
  have k27 := Tryd.kind85
  have k25 := Tryd.kind77
  have e27 := Tryd.elem85
  have i25 := Tryd.implements77
  have nA := Tryd.noAs116
  have hU := Tryd.hasUnwrap116
  have mU := Tryd.methodUnwrap
  have n8 := Tryd.isNil85 ⟨w.heap.size, 0, none⟩ t ((w.alloc (.cells #[.pointer (some t)] 85)).alloc (.cells #[.pointer (some ⟨5, 85, none⟩), .pointer (some ⟨w.heap.size, 0, none⟩), .int .u64 150] 126)) (by simp)
  have hlt : 0 < w.heap.size := by
    rcases Nat.eq_zero_or_pos w.heap.size with h0 | h
    · simp [World.cell?, h0] at hg
    · exact h
  have hg2 : ((w.alloc (.cells #[.pointer (some t)] 85)).alloc (.cells #[.pointer (some ⟨5, 85, none⟩), .pointer (some ⟨w.heap.size, 0, none⟩), .int .u64 150] 126)).cell? ⟨0, 0, none⟩ = some (.iface 155 (.agg #[.pointer (some ⟨5, 28, none⟩)])) := by
    rw [World.cell?_alloc_lt _ _ ⟨0, 0, none⟩ (by simp), World.cell?_alloc_lt _ _ ⟨0, 0, none⟩ hlt]; exact hg
  have htl : t.block < w.heap.size := by
    rcases Nat.lt_or_ge t.block w.heap.size with h | h
    · exact h
    · simp [World.cell?, Array.getElem?_eq_none h] at ht0
  have hkl : k < w.heap.size := by
    rcases Nat.lt_or_ge k w.heap.size with h | h
    · exact h
    · simp [World.cell?, Array.getElem?_eq_none h] at hc
  have hc3 : (((w.alloc (.cells #[.pointer (some t)] 85)).alloc (.cells #[.pointer (some ⟨5, 85, none⟩), .pointer (some ⟨w.heap.size, 0, none⟩), .int .u64 150] 126)).alloc (.cells #[.pointer (some ⟨5, 85, none⟩), .pointer (some ⟨w.heap.size, 0, none⟩), .int .u64 150] 126)).cell? ⟨k, base + 1, none⟩ = some (.iface 77 (.int .i64 n)) := by
    rw [World.cell?_alloc_lt _ _ ⟨k, base + 1, none⟩ (by simp; omega), World.cell?_alloc_lt _ _ ⟨k, base + 1, none⟩ (by simp; omega), World.cell?_alloc_lt _ _ ⟨k, base + 1, none⟩ hkl]; exact hc
  have el := Tryd.elemV85 ⟨w.heap.size, 0, none⟩ t (((w.alloc (.cells #[.pointer (some t)] 85)).alloc (.cells #[.pointer (some ⟨5, 85, none⟩), .pointer (some ⟨w.heap.size, 0, none⟩), .int .u64 150] 126)).alloc (.cells #[.pointer (some ⟨5, 85, none⟩), .pointer (some ⟨w.heap.size, 0, none⟩), .int .u64 150] 126)) (by rw [World.cell?_alloc_lt _ _ ⟨w.heap.size, 0, none⟩ (by simp; omega)]; simp)
  have st := Tryd.set77 t ⟨w.heap.size + 1 + 1 + 1, 0, none⟩ n old ((((w.alloc (.cells #[.pointer (some t)] 85)).alloc (.cells #[.pointer (some ⟨5, 85, none⟩), .pointer (some ⟨w.heap.size, 0, none⟩), .int .u64 150] 126)).alloc (.cells #[.pointer (some ⟨5, 85, none⟩), .pointer (some ⟨w.heap.size, 0, none⟩), .int .u64 150] 126)).alloc (.cells #[.int .i64 n] 77))
    (by rw [World.cell?_alloc_at _ _ _ _ (by simp)]; rfl)
    (by rw [World.cell?_alloc_lt _ _ t (by simp; omega), World.cell?_alloc_lt _ _ t (by simp; omega), World.cell?_alloc_lt _ _ t (by simp; omega), World.cell?_alloc_lt _ _ t htl]; exact ht0)
    (by rw [World.frozen?_alloc_old _ _ t (by simp; omega), World.frozen?_alloc_old _ _ t (by simp; omega), World.frozen?_alloc_old _ _ t (by simp; omega), World.frozen?_alloc_old _ _ t (Nat.ne_of_lt htl)]; exact hf0)
  go_enter Tryd.func29, Tryd.ntmps29
  go_wp2
  refine wp_loop_rounds 2 ?_
  rw [rounds_succ]
  go_wp2
  rw [rounds_succ]
  go_wp2
  go_ret
  exact ⟨rfl, rfl⟩
end Go.Proofs
