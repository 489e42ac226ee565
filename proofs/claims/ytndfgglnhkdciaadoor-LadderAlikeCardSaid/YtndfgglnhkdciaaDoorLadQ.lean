/- errors.As at this program's errors. -/
import Derived.Test.YtndfgglnhkdciaaDoorLadM
import Derived.LaidEql
import Derived.Stop.Asserts
import Derived.RowKitTokens
namespace Go.Proofs.YtndfgglnhkdciaaDoor
open Go.RowKit Go.Extern.Stop Go.Stop Go.Extern

theorem as_nil (t : Value) (w : World) : Calls Tryd.prog 27 #[.nilIface, t] w fun e w' => e = .returned (.bool false) ∧ w' = w := by
  go_enter Tryd.func27, Tryd.ntmps27
  go_wp2
  go_ret
  exact ⟨rfl, rfl⟩

/-! ### Closed facts on the model's entries for internal/reflectlite, at this program's types -/
theorem rl_valueOf60 (t : Addr) (w : World) : (ReflectliteValue.unpack (.iface 60 (.pointer (some t)))).run Tryd.prog w
    = .ok (.agg #[.pointer (some ⟨3, 60, none⟩), .pointer (some ⟨w.heap.size, 0, none⟩), .int .u64 150]) (w.alloc (.cells #[.pointer (some t)] 60)) := by kernel_rfl
theorem rl_type60 (a : Addr) (w : World) : (ReflectliteValue.methodAny (ReflectliteValue.valueError "reflectlite.Value.Type" 0) (fun t _ _ _ => ReflectliteType.toType t) #[.agg #[.pointer (some ⟨3, 60, none⟩), .pointer (some a), .int .u64 150]]).run Tryd.prog w
    = .ok (.iface 82 (.agg #[.pointer (some ⟨3, 60, none⟩)])) w := by kernel_rfl
theorem rl_kind60 (w : World) : ((ReflectliteType.abiMethod fun t => (fun a : Nat => Value.int IntKind.u8 (a : Int)) <$> Rtype.kind t) #[.pointer (some ⟨3, 60, none⟩)]).run Tryd.prog w = .ok (.int .u8 22) w := by kernel_rfl
theorem rl_kind58 (w : World) : ((ReflectliteType.abiMethod fun t => (fun a : Nat => Value.int IntKind.u8 (a : Int)) <$> Rtype.kind t) #[.pointer (some ⟨3, 58, none⟩)]).run Tryd.prog w = .ok (.int .u8 25) w := by kernel_rfl
theorem rlm (z : Sem Value) (f : TypeId → Addr → Nat → Nat → Sem Value) (v : Value) :
    ReflectliteValue.method z f #[v] = (do match ← ReflectliteValue.parts v with | none => z | some (t, a, fl) => f t a fl (fl % 32)) := rfl
theorem rl_parts60 (a : Addr) (w : World) : (ReflectliteValue.parts (.agg #[.pointer (some ⟨3, 60, none⟩), .pointer (some a), .int .u64 150])).run Tryd.prog w = .ok (some (60, a, 150)) w := by kernel_rfl
theorem rl_isNil60 (a p : Addr) (W : World) (ha : W.cell? a = some (.pointer (some p))) :
    (ReflectliteValue.method (ReflectliteValue.valueError "reflectlite.Value.IsNil" 0) ReflectliteValue.isNil #[.agg #[.pointer (some ⟨3, 60, none⟩), .pointer (some a), .int .u64 150]]).run Tryd.prog W = .ok (.bool false) W := by
  rw [rlm]
  simp only [Sem.run_bind, rl_parts60, Result.andThen]
  simp [ReflectliteValue.isNil, loadVar, isAgg, underlying, Tryd.underlying60, ha, Result.andThen]
theorem rl_elem60 (w : World) : (ReflectliteType.method ReflectliteType.elem #[.agg #[.pointer (some ⟨3, 60, none⟩)]]).run Tryd.prog w = .ok (.iface 82 (.agg #[.pointer (some ⟨3, 58, none⟩)])) w := by kernel_rfl
theorem rl_implements58 (w : World) : (ReflectliteType.relation "Implements" ReflectliteType.implements_ #[.agg #[.pointer (some ⟨3, 58, none⟩)], .iface 82 (.agg #[.pointer (some ⟨3, 47, none⟩)])]).run Tryd.prog w = .ok (.bool true) w := by kernel_rfl
theorem rl_typeOf (T : TypeId) (v : Value) (w : World) (h : T = 58 ∨ T = 56) : (ReflectliteType.typeOf #[.iface T v]).run Tryd.prog w = .ok (.iface 82 (.agg #[.pointer (some ⟨3, T, none⟩)])) w := by
  rcases h with rfl | rfl <;> kernel_rfl
theorem rl_assign58 (w : World) : (ReflectliteType.relation "AssignableTo" ReflectliteType.assignableTo #[.agg #[.pointer (some ⟨3, 58, none⟩)], .iface 82 (.agg #[.pointer (some ⟨3, 58, none⟩)])]).run Tryd.prog w = .ok (.bool true) w := by kernel_rfl
theorem rl_assign56 (w : World) : (ReflectliteType.relation "AssignableTo" ReflectliteType.assignableTo #[.agg #[.pointer (some ⟨3, 56, none⟩)], .iface 82 (.agg #[.pointer (some ⟨3, 58, none⟩)])]).run Tryd.prog w = .ok (.bool false) w := by kernel_rfl
theorem rl_valueOf58 (n : Int) (w : World) : (ReflectliteValue.unpack (.iface 58 (.agg #[.int .i64 n]))).run Tryd.prog w
    = .ok (.agg #[.pointer (some ⟨3, 58, none⟩), .pointer (some ⟨w.heap.size, 0, none⟩), .int .u64 153]) (w.alloc (.cells #[.int .i64 n] 58)) := by kernel_rfl
theorem rl_elemOf60 (w : World) : (Rtype.elem? 60).run Tryd.prog w = .ok (some 58) w := by kernel_rfl
theorem rl_mk58 (p : Addr) (w : World) : (ReflectliteValue.mk 58 p ReflectliteValue.flagAddr).run Tryd.prog w = .ok (.agg #[.pointer (some ⟨3, 58, none⟩), .pointer (some p), .int .u64 409]) w := by kernel_rfl
theorem rl_elemV60 (a p : Addr) (W : World) (ha : W.cell? a = some (.pointer (some p))) :
    (ReflectliteValue.method (ReflectliteValue.valueError "reflectlite.Value.Elem" 0) ReflectliteValue.elem #[.agg #[.pointer (some ⟨3, 60, none⟩), .pointer (some a), .int .u64 150]]).run Tryd.prog W
      = .ok (.agg #[.pointer (some ⟨3, 58, none⟩), .pointer (some p), .int .u64 409]) W := by
  rw [rlm]
  simp only [Sem.run_bind, rl_parts60, Result.andThen]
  simp [ReflectliteValue.elem, loadVar, isAgg, underlying, Tryd.underlying60, ha, Result.andThen, rl_elemOf60, rl_mk58]
theorem rl_methodKind (h : Value) (w : World) : (Go.method 231 82 (.agg #[h]) "Kind").run Tryd.prog w = .ok (59, h) w := by kernel_rfl
theorem rl_methodElem (h : Value) (w : World) : (Go.method 231 82 (.agg #[h]) "Elem").run Tryd.prog w = .ok (71, .agg #[h]) w := by kernel_rfl
theorem rl_methodImplements (h : Value) (w : World) : (Go.method 231 82 (.agg #[h]) "Implements").run Tryd.prog w = .ok (72, .agg #[h]) w := by kernel_rfl
theorem rl_methodAssignableTo (h : Value) (w : World) : (Go.method 231 82 (.agg #[h]) "AssignableTo").run Tryd.prog w = .ok (69, .agg #[h]) w := by kernel_rfl
theorem rl_methodUnwrap (a b : Value) (w : World) : (Go.method 231 56 (.agg #[a, b]) "Unwrap").run Tryd.prog w = .ok (63, .agg #[a, b]) w := by kernel_rfl
theorem rls (v x : Value) : ReflectliteValue.set #[v, x] = (do
    let (some (dst, a, fl), some (src, b, _)) := (← ReflectliteValue.parts v, ← ReflectliteValue.parts x)
      | unsupported (.noEntry "extern/(internal/reflectlite.Value).Set.zeroValue")
    if fl / ReflectliteValue.flagAddr % 2 == 0 then unsupported (.noEntry "extern/(internal/reflectlite.Value).Set.unaddressable")
    let val ← loadVar src b
    if ← Rtype.directlyAssignable dst src then storeVar dst a val
    else if ← Rtype.implements dst src then
      if (← Rtype.kind src) == 20 then
        match val with
        | .nilIface => unsupported (.noEntry "extern/reflectlite: a nil value of one interface type handed on as a value of another")
        | _ => storeVar dst a val
      else storeVar dst a (.iface src val)
    else panicString ("reflectlite.Set: value of type " ++ (← Rtype.spelt src) ++ " is not assignable to type " ++ (← Rtype.spelt dst))
    pure (.tuple #[])) := rfl
theorem rl_parts58a (a : Addr) (w : World) : (ReflectliteValue.parts (.agg #[.pointer (some ⟨3, 58, none⟩), .pointer (some a), .int .u64 409])).run Tryd.prog w = .ok (some (58, a, 409)) w := by kernel_rfl
theorem rl_parts58 (a : Addr) (w : World) : (ReflectliteValue.parts (.agg #[.pointer (some ⟨3, 58, none⟩), .pointer (some a), .int .u64 153])).run Tryd.prog w = .ok (some (58, a, 153)) w := by kernel_rfl
theorem rl_direct58 (w : World) : (Rtype.directlyAssignable 58 58).run Tryd.prog w = .ok true w := by kernel_rfl
/-- (Value).Set: the fault at t gets what the Value's own variable at b holds. -/
theorem rl_set58 (t b : Nat) (n : Int) (old : Value) (W : World) (hb : Blk W b 58 #[.int .i64 n]) (ht : W.cell? ⟨t, 0, none⟩ = some old) (hf : W.frozen? ⟨t, 0, none⟩ = false) :
    (ReflectliteValue.set #[.agg #[.pointer (some ⟨3, 58, none⟩), .pointer (some ⟨t, 0, none⟩), .int .u64 409], .agg #[.pointer (some ⟨3, 58, none⟩), .pointer (some ⟨b, 0, none⟩), .int .u64 153]]).run Tryd.prog W
      = .ok (.tuple #[]) (W.setCell ⟨t, 0, none⟩ (.int .i64 n)) := by
  rw [rls]
  simp only [Sem.run_bind, rl_parts58a, rl_parts58, Result.andThen]
  simp [ReflectliteValue.flagAddr, run_loadVar_row W b 58 58 #[.int .i64 n] (0, 0) _ hb Tryd.underlying58 rfl (by kernel_rfl), Result.andThen, rl_direct58, storeVar, Value.cells, storeCells, Addr.add]
  rw [run_store Tryd.prog W ⟨t, 0, none⟩ _ _ (by rfl)]
  simp [ht, hf]
end Go.Proofs.YtndfgglnhkdciaaDoor
