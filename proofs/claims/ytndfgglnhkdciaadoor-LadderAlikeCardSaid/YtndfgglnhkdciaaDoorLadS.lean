/- errors.As at this program's errors: the walk. -/
import Derived.Test.YtndfgglnhkdciaaDoorLadQ
namespace Go.Proofs.YtndfgglnhkdciaaDoor
open Go.RowKit Go.Extern.Stop Go.Stop Go.Extern

theorem at_noAs (v : Value) (xT : TypeId) (w : World) : (Instr.typeAssert (.iface 56 v) xT 87 true).run Tryd.prog w = .ok (.tuple #[.nilIface, .bool false]) w := run_typeAssert_lacksB Tryd.underlying87 (by kernel_rfl) (by kernel_rfl) v xT w
theorem at_unwraps (v : Value) (xT : TypeId) (w : World) : (Instr.typeAssert (.iface 56 v) xT 90 true).run Tryd.prog w = .ok (.tuple #[.iface 56 v, .bool true]) w := run_typeAssert_hasB Tryd.underlying90 (by kernel_rfl) v xT w
set_option maxRecDepth 100000 in
set_option maxHeartbeats 4000000 in
theorem as_any (i : Int) (t : Nat) (w : World) (hg : w.cell? ⟨0, 0, none⟩ = some (.iface 82 (.agg #[.pointer (some ⟨3, 47, none⟩)]))) (ht : Blk w t 58 #[.int .i64 0]) :
    Calls Tryd.prog 27 #[.iface 56 (.agg #[.int .i64 i, .iface 58 (.agg #[.int .i64 5])]), .iface 60 (.pointer (some ⟨t, 0, none⟩))] w
      fun e w' => e = .returned (.bool true) ∧ Blk w' t 58 #[.int .i64 5] ∧ Below t w w' := by
  have x31 := @run_callFunc_extern Tryd.prog 31 _ (fun args => ReflectliteValue.unpack (args.getD 0 (.tuple #[]))) Tryd.func31 (by kernel_rfl) (by kernel_rfl) (by kernel_rfl) (by kernel_rfl)
  have x32 := @run_callFunc_extern Tryd.prog 32 _ (ReflectliteValue.methodAny (ReflectliteValue.valueError "reflectlite.Value.Type" 0) (fun t _ _ _ => ReflectliteType.toType t)) Tryd.func32 (by kernel_rfl) (by kernel_rfl) (by kernel_rfl) (by kernel_rfl)
  have x33 := @run_callFunc_extern Tryd.prog 33 _ (ReflectliteValue.method (ReflectliteValue.valueError "reflectlite.Value.IsNil" 0) ReflectliteValue.isNil) Tryd.func33 (by kernel_rfl) (by kernel_rfl) (by kernel_rfl) (by kernel_rfl)
  have x71 := @run_callFunc_extern Tryd.prog 71 _ (ReflectliteType.method ReflectliteType.elem) Tryd.func71 (by kernel_rfl) (by kernel_rfl) (by kernel_rfl) (by kernel_rfl)
  have x72 := @run_callFunc_extern Tryd.prog 72 _ (ReflectliteType.relation "Implements" ReflectliteType.implements_) Tryd.func72 (by kernel_rfl) (by kernel_rfl) (by kernel_rfl) (by kernel_rfl)
  have x37 := @run_callFunc_extern Tryd.prog 37 _ ReflectliteType.typeOf Tryd.func37 (by kernel_rfl) (by kernel_rfl) (by kernel_rfl) (by kernel_rfl)
  have x69 := @run_callFunc_extern Tryd.prog 69 _ (ReflectliteType.relation "AssignableTo" ReflectliteType.assignableTo) Tryd.func69 (by kernel_rfl) (by kernel_rfl) (by kernel_rfl) (by kernel_rfl)
  have x38 := @run_callFunc_extern Tryd.prog 38 _ (ReflectliteValue.method (ReflectliteValue.valueError "reflectlite.Value.Elem" 0) ReflectliteValue.elem) Tryd.func38 (by kernel_rfl) (by kernel_rfl) (by kernel_rfl) (by kernel_rfl)
  have x59 := @run_callFunc_extern Tryd.prog 59 _ (ReflectliteType.abiMethod fun t => do pure (.int .u8 (← Rtype.kind t))) Tryd.func59 (by kernel_rfl) (by kernel_rfl) (by kernel_rfl) (by kernel_rfl)
  have x39 := @run_callFunc_extern Tryd.prog 39 _ ReflectliteValue.set Tryd.func39 (by kernel_rfl) (by kernel_rfl) (by kernel_rfl) (by kernel_rfl)
  have f1 := rl_valueOf60
  have f2 := rl_type60
  have f3 := rl_kind60
  have f4 := rl_kind58
  have f5 := rl_elem60
  have f6 := rl_implements58
  have f7 := rl_assign58
  have f8 := rl_assign56
  have f9 := rl_valueOf58
  have tO1 := fun v w => rl_typeOf 58 v w (Or.inl rfl)
  have tO2 := fun v w => rl_typeOf 56 v w (Or.inr rfl)
  have a1 := at_noAs
  have a2 := at_unwraps
  have g1 := rl_methodKind
  have g2 := rl_methodElem
  have g3 := rl_methodImplements
  have g4 := rl_methodAssignableTo
  have g5 := rl_methodUnwrap
  have hlt : 0 < w.heap.size := block_lt_of_cell hg
  have htl := ht.lt
  have n8 := rl_isNil60 ⟨w.heap.size, 0, none⟩ ⟨t, 0, none⟩ ((w.alloc (.cells #[.pointer (some ⟨t, 0, none⟩)] 60)).alloc (.cells #[.pointer (some ⟨3, 60, none⟩), .pointer (some ⟨w.heap.size, 0, none⟩), .int .u64 150] 67)) (by simp)
  have hg2 : ((w.alloc (.cells #[.pointer (some ⟨t, 0, none⟩)] 60)).alloc (.cells #[.pointer (some ⟨3, 60, none⟩), .pointer (some ⟨w.heap.size, 0, none⟩), .int .u64 150] 67)).cell? ⟨0, 0, none⟩ = some (.iface 82 (.agg #[.pointer (some ⟨3, 47, none⟩)])) := by
    rw [World.cell?_alloc_lt _ _ ⟨0, 0, none⟩ (by simp), World.cell?_alloc_lt _ _ ⟨0, 0, none⟩ hlt]; exact hg
  have el := rl_elemV60 ⟨w.heap.size, 0, none⟩ ⟨t, 0, none⟩ ((((w.alloc (.cells #[.pointer (some ⟨t, 0, none⟩)] 60)).alloc (.cells #[.pointer (some ⟨3, 60, none⟩), .pointer (some ⟨w.heap.size, 0, none⟩), .int .u64 150] 67)).alloc (.cells #[.pointer (some ⟨3, 60, none⟩), .pointer (some ⟨w.heap.size, 0, none⟩), .int .u64 150] 67)).alloc (.cells #[.int .i64 i, .iface 58 (.agg #[.int .i64 5])] 56)) (by rw [World.cell?_alloc_lt _ _ ⟨w.heap.size, 0, none⟩ (by simp; omega), World.cell?_alloc_lt _ _ ⟨w.heap.size, 0, none⟩ (by simp; omega)]; simp)
  have st := rl_set58 t (w.heap.size + 1 + 1 + 1 + 1) 5 (.int .i64 0) (((((w.alloc (.cells #[.pointer (some ⟨t, 0, none⟩)] 60)).alloc (.cells #[.pointer (some ⟨3, 60, none⟩), .pointer (some ⟨w.heap.size, 0, none⟩), .int .u64 150] 67)).alloc (.cells #[.pointer (some ⟨3, 60, none⟩), .pointer (some ⟨w.heap.size, 0, none⟩), .int .u64 150] 67)).alloc (.cells #[.int .i64 i, .iface 58 (.agg #[.int .i64 5])] 56)).alloc (.cells #[.int .i64 5] 58))
    (Blk.new' (by simp))
    (by rw [World.cell?_alloc_lt _ _ ⟨t, 0, none⟩ (by simp; omega), World.cell?_alloc_lt _ _ ⟨t, 0, none⟩ (by simp; omega), World.cell?_alloc_lt _ _ ⟨t, 0, none⟩ (by simp; omega), World.cell?_alloc_lt _ _ ⟨t, 0, none⟩ (by simp; omega), World.cell?_alloc_lt _ _ ⟨t, 0, none⟩ htl]; exact ht.cell 0)
    (by rw [World.frozen?_alloc_old _ _ ⟨t, 0, none⟩ (by simp; omega), World.frozen?_alloc_old _ _ ⟨t, 0, none⟩ (by simp; omega), World.frozen?_alloc_old _ _ ⟨t, 0, none⟩ (by simp; omega), World.frozen?_alloc_old _ _ ⟨t, 0, none⟩ (by simp; omega), World.frozen?_alloc_old _ _ ⟨t, 0, none⟩ (Nat.ne_of_lt htl)]; exact ht.frozen 0)
  go_enter Tryd.func27, Tryd.ntmps27
  go_wp2
  refine wp_loop_rounds 2 ?_
  rw [rounds_succ]
  go_wp2
  rw [rounds_succ]
  go_wp2
  go_ret
  refine ⟨rfl, ?_, ?_⟩
  · have b := (((((ht.alloc (.cells #[.pointer (some ⟨t, 0, none⟩)] 60)).alloc (.cells #[.pointer (some ⟨3, 60, none⟩), .pointer (some ⟨w.heap.size, 0, none⟩), .int .u64 150] 67)).alloc (.cells #[.pointer (some ⟨3, 60, none⟩), .pointer (some ⟨w.heap.size, 0, none⟩), .int .u64 150] 67)).alloc (.cells #[.int .i64 i, .iface 58 (.agg #[.int .i64 5])] 56)).alloc (.cells #[.int .i64 5] 58)).set_ 0 (.int .i64 5)
    exact b
  · refine Below.setCell (p := ⟨t, 0, none⟩) ?_ (Nat.le_refl t) _
    exact (((((Below.refl t w).alloc (by omega) _).alloc (by simp; omega) _).alloc (by simp; omega) _).alloc (by simp; omega) _).alloc (by simp; omega) _
end Go.Proofs.YtndfgglnhkdciaaDoor
