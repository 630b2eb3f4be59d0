/-
  Contracts of errors.As and errors.Is over the errors that Wrap makes: the walks.
-/
import Derived.Test.YtodkhoclbhdihaaDoorApj
namespace Go.Proofs.YtodkhoclbhdihaaDoor
open Go.RowKit Go.Extern.Stop Go.Stop Go.Extern

theorem A.methodKind (h : Value) (w : World) : (Go.method 311 151 (.agg #[h]) "Kind").run Tryd.prog w = .ok (98, h) w := by kernel_rfl
theorem A.methodElem (h : Value) (w : World) : (Go.method 311 151 (.agg #[h]) "Elem").run Tryd.prog w = .ok (110, .agg #[h]) w := by kernel_rfl
theorem A.methodImplements (h : Value) (w : World) : (Go.method 311 151 (.agg #[h]) "Implements").run Tryd.prog w = .ok (111, .agg #[h]) w := by kernel_rfl
theorem A.methodAssignableTo (h : Value) (w : World) : (Go.method 311 151 (.agg #[h]) "AssignableTo").run Tryd.prog w = .ok (108, .agg #[h]) w := by kernel_rfl
theorem A.methodUnwrap (g : Addr) (w : World) : (Go.method 311 97 (.pointer (some g)) "Unwrap").run Tryd.prog w = .ok (103, .pointer (some g)) w := by kernel_rfl


theorem as_nil (t : Value) (w : World) : Calls Tryd.prog 33 #[.nilIface, t] w fun e w' => e = .returned (.bool false) ∧ w = w' := by
  go_enter Tryd.func33, Tryd.ntmps33
  go_wp2
  go_ret
  exact ⟨rfl, rfl⟩


set_option maxHeartbeats 4000000 in
theorem as_fault0 (e t : Addr) (old : Value) (w : World) (hg : ErrT w) (ht0 : w.cell? t = some old) (hf0 : w.frozen? t = false) :
    Calls Tryd.prog 33 #[.iface 97 (.pointer (some e)), .iface 143 (.pointer (some t))] w fun ev w' => ev = .returned (.bool true) ∧ w' = ((((w.alloc (.cells #[.pointer (some t)] 143)).alloc (.cells #[.pointer (some ⟨4, 143, none⟩), .pointer (some ⟨w.heap.size, 0, none⟩), .int .u64 150] 123)).alloc (.cells #[.pointer (some ⟨4, 143, none⟩), .pointer (some ⟨w.heap.size, 0, none⟩), .int .u64 150] 123)).alloc (.cells #[.pointer (some e)] 97)).setCell t (.pointer (some e)) := by
  have hVO := @run_callFunc_extern Tryd.prog 47 _ (fun args => ReflectliteValue.unpack (args.getD 0 (.tuple #[]))) Tryd.func47 (by kernel_rfl) (by kernel_rfl) (by kernel_rfl) (by kernel_rfl)
  have hTy := @run_callFunc_extern Tryd.prog 48 _ (ReflectliteValue.methodAny (ReflectliteValue.valueError "reflectlite.Value.Type" 0) (fun t _ _ _ => ReflectliteType.toType t)) Tryd.func48 (by kernel_rfl) (by kernel_rfl) (by kernel_rfl) (by kernel_rfl)
  have hIN := @run_callFunc_extern Tryd.prog 49 _ (ReflectliteValue.method (ReflectliteValue.valueError "reflectlite.Value.IsNil" 0) ReflectliteValue.isNil) Tryd.func49 (by kernel_rfl) (by kernel_rfl) (by kernel_rfl) (by kernel_rfl)
  have hKd := @run_callFunc_extern Tryd.prog 98 _ (ReflectliteType.abiMethod fun t => do pure (.int .u8 (← Rtype.kind t))) Tryd.func98 (by kernel_rfl) (by kernel_rfl) (by kernel_rfl) (by kernel_rfl)
  have hEl := @run_callFunc_extern Tryd.prog 110 _ (ReflectliteType.method ReflectliteType.elem) Tryd.func110 (by kernel_rfl) (by kernel_rfl) (by kernel_rfl) (by kernel_rfl)
  have hIm := @run_callFunc_extern Tryd.prog 111 _ (ReflectliteType.relation "Implements" ReflectliteType.implements_) Tryd.func111 (by kernel_rfl) (by kernel_rfl) (by kernel_rfl) (by kernel_rfl)
  have hTO := @run_callFunc_extern Tryd.prog 69 _ ReflectliteType.typeOf Tryd.func69 (by kernel_rfl) (by kernel_rfl) (by kernel_rfl) (by kernel_rfl)
  have hAs := @run_callFunc_extern Tryd.prog 108 _ (ReflectliteType.relation "AssignableTo" ReflectliteType.assignableTo) Tryd.func108 (by kernel_rfl) (by kernel_rfl) (by kernel_rfl) (by kernel_rfl)
  have hEV := @run_callFunc_extern Tryd.prog 70 _ (ReflectliteValue.method (ReflectliteValue.valueError "reflectlite.Value.Elem" 0) ReflectliteValue.elem) Tryd.func70 (by kernel_rfl) (by kernel_rfl) (by kernel_rfl) (by kernel_rfl)
  have hSt := @run_callFunc_extern Tryd.prog 71 _ ReflectliteValue.set Tryd.func71 (by kernel_rfl) (by kernel_rfl) (by kernel_rfl) (by kernel_rfl)
  have valueOfPF := A.valueOfPF
  have typePF := A.typePF
  have kindPF := A.kindPF
  have kindF := A.kindF
  have elemPF := A.elemPF
  have implementsF := A.implementsF
  have typeOfF := A.typeOfF
  have assignableF := A.assignableF
  have methodKind := A.methodKind
  have methodElem := A.methodElem
  have methodImplements := A.methodImplements
  have methodAssignableTo := A.methodAssignableTo
  have vF := A.valueOfF
  unfold ErrT at hg
  have hlt : 2 < w.heap.size := lt_of_cell hg
  have htl : t.block < w.heap.size := lt_of_cell ht0
  have n8 := A.isNilPF ⟨w.heap.size, 0, none⟩ t ((w.alloc (.cells #[.pointer (some t)] 143)).alloc (.cells #[.pointer (some ⟨4, 143, none⟩), .pointer (some ⟨w.heap.size, 0, none⟩), .int .u64 150] 123)) (by simp)
  have hg2 : ((w.alloc (.cells #[.pointer (some t)] 143)).alloc (.cells #[.pointer (some ⟨4, 143, none⟩), .pointer (some ⟨w.heap.size, 0, none⟩), .int .u64 150] 123)).cell? ⟨2, 0, none⟩ = some (.iface 151 (.agg #[.pointer (some ⟨4, 46, none⟩)])) := by
    rw [World.cell?_alloc_lt _ _ ⟨2, 0, none⟩ (by simp; omega), World.cell?_alloc_lt _ _ ⟨2, 0, none⟩ hlt]; exact hg
  have el := A.elemVF ⟨w.heap.size, 0, none⟩ t (((w.alloc (.cells #[.pointer (some t)] 143)).alloc (.cells #[.pointer (some ⟨4, 143, none⟩), .pointer (some ⟨w.heap.size, 0, none⟩), .int .u64 150] 123)).alloc (.cells #[.pointer (some ⟨4, 143, none⟩), .pointer (some ⟨w.heap.size, 0, none⟩), .int .u64 150] 123)) (by rw [World.cell?_alloc_lt _ _ ⟨w.heap.size, 0, none⟩ (by simp; omega)]; simp)
  have st := A.setF t ⟨w.heap.size + 1 + 1 + 1, 0, none⟩ (.pointer (some e)) old rfl rfl ((((w.alloc (.cells #[.pointer (some t)] 143)).alloc (.cells #[.pointer (some ⟨4, 143, none⟩), .pointer (some ⟨w.heap.size, 0, none⟩), .int .u64 150] 123)).alloc (.cells #[.pointer (some ⟨4, 143, none⟩), .pointer (some ⟨w.heap.size, 0, none⟩), .int .u64 150] 123)).alloc (.cells #[.pointer (some e)] 97))
    (by rw [World.cell?_alloc_at _ _ _ _ (by simp)]; rfl)
    (by rw [World.cell?_alloc_lt _ _ t (by simp; omega), World.cell?_alloc_lt _ _ t (by simp; omega), World.cell?_alloc_lt _ _ t (by simp; omega), World.cell?_alloc_lt _ _ t htl]; exact ht0)
    (by rw [World.frozen?_alloc_old _ _ t (by simp; omega), World.frozen?_alloc_old _ _ t (by simp; omega), World.frozen?_alloc_old _ _ t (by simp; omega), World.frozen?_alloc_old _ _ t (Nat.ne_of_lt htl)]; exact hf0)
  go_enter Tryd.func33, Tryd.ntmps33
  go_wp2
  refine wp_loop_rounds 1 ?_
  rw [rounds_succ]
  go_wp2
  go_ret
  exact ⟨rfl, rfl⟩

theorem A.noAs (e : Addr) (w : World) : (Instr.typeAssert (.iface 97 (.pointer (some e))) 46 156 true).run Tryd.prog w = .ok (.tuple #[.nilIface, .bool false]) w := run_typeAssert_lacksB Tryd.underlying156 (by kernel_rfl) (by kernel_rfl) _ _ w
theorem A.hasUnwrap (e : Addr) (w : World) : (Instr.typeAssert (.iface 97 (.pointer (some e))) 46 159 true).run Tryd.prog w = .ok (.tuple #[.iface 97 (.pointer (some e)), .bool true]) w := by kernel_rfl
theorem A.noIs (e : Addr) (w : World) : (Instr.typeAssert (.iface 97 (.pointer (some e))) 46 179 true).run Tryd.prog w = .ok (.tuple #[.nilIface, .bool false]) w := run_typeAssert_lacksB Tryd.underlying179 (by kernel_rfl) (by kernel_rfl) _ _ w
theorem A.noIsE (e : Int) (w : World) : (Instr.typeAssert (.iface 39 (.int .i64 e)) 46 179 true).run Tryd.prog w = .ok (.tuple #[.nilIface, .bool false]) w := run_typeAssert_lacksB Tryd.underlying179 (by kernel_rfl) (by kernel_rfl) _ _ w
theorem A.noUnwrapE (e : Int) (w : World) : (Instr.typeAssert (.iface 39 (.int .i64 e)) 46 159 true).run Tryd.prog w = .ok (.tuple #[.nilIface, .bool false]) w := run_typeAssert_lacksB Tryd.underlying159 (by kernel_rfl) (by kernel_rfl) _ _ w
theorem A.noUnwrapsE (e : Int) (w : World) : (Instr.typeAssert (.iface 39 (.int .i64 e)) 46 161 true).run Tryd.prog w = .ok (.tuple #[.nilIface, .bool false]) w := run_typeAssert_lacksB Tryd.underlying161 (by kernel_rfl) (by kernel_rfl) _ _ w
theorem A.methodComparable (h : Value) (w : World) : (Go.method 311 151 (.agg #[h]) "Comparable").run Tryd.prog w = .ok (109, .agg #[h]) w := by kernel_rfl


set_option maxHeartbeats 4000000 in
theorem as_errno0 (g : Nat) (a c : Int) (t : Addr) (old : Value) (w : World) (hg : ErrT w) (hF : Fault w g a c) (ht0 : w.cell? t = some old) (hf0 : w.frozen? t = false) :
    Calls Tryd.prog 33 #[errV g, .iface 93 (.pointer (some t))] w fun ev w' => ev = .returned (.bool true) ∧ w' = ((((w.alloc (.cells #[.pointer (some t)] 93)).alloc (.cells #[.pointer (some ⟨4, 93, none⟩), .pointer (some ⟨w.heap.size, 0, none⟩), .int .u64 150] 123)).alloc (.cells #[.pointer (some ⟨4, 93, none⟩), .pointer (some ⟨w.heap.size, 0, none⟩), .int .u64 150] 123)).alloc (.cells #[.int .i64 c] 39)).setCell t (.int .i64 c) := by
  have hVO := @run_callFunc_extern Tryd.prog 47 _ (fun args => ReflectliteValue.unpack (args.getD 0 (.tuple #[]))) Tryd.func47 (by kernel_rfl) (by kernel_rfl) (by kernel_rfl) (by kernel_rfl)
  have hTy := @run_callFunc_extern Tryd.prog 48 _ (ReflectliteValue.methodAny (ReflectliteValue.valueError "reflectlite.Value.Type" 0) (fun t _ _ _ => ReflectliteType.toType t)) Tryd.func48 (by kernel_rfl) (by kernel_rfl) (by kernel_rfl) (by kernel_rfl)
  have hIN := @run_callFunc_extern Tryd.prog 49 _ (ReflectliteValue.method (ReflectliteValue.valueError "reflectlite.Value.IsNil" 0) ReflectliteValue.isNil) Tryd.func49 (by kernel_rfl) (by kernel_rfl) (by kernel_rfl) (by kernel_rfl)
  have hKd := @run_callFunc_extern Tryd.prog 98 _ (ReflectliteType.abiMethod fun t => do pure (.int .u8 (← Rtype.kind t))) Tryd.func98 (by kernel_rfl) (by kernel_rfl) (by kernel_rfl) (by kernel_rfl)
  have hEl := @run_callFunc_extern Tryd.prog 110 _ (ReflectliteType.method ReflectliteType.elem) Tryd.func110 (by kernel_rfl) (by kernel_rfl) (by kernel_rfl) (by kernel_rfl)
  have hIm := @run_callFunc_extern Tryd.prog 111 _ (ReflectliteType.relation "Implements" ReflectliteType.implements_) Tryd.func111 (by kernel_rfl) (by kernel_rfl) (by kernel_rfl) (by kernel_rfl)
  have hTO := @run_callFunc_extern Tryd.prog 69 _ ReflectliteType.typeOf Tryd.func69 (by kernel_rfl) (by kernel_rfl) (by kernel_rfl) (by kernel_rfl)
  have hAs := @run_callFunc_extern Tryd.prog 108 _ (ReflectliteType.relation "AssignableTo" ReflectliteType.assignableTo) Tryd.func108 (by kernel_rfl) (by kernel_rfl) (by kernel_rfl) (by kernel_rfl)
  have hEV := @run_callFunc_extern Tryd.prog 70 _ (ReflectliteValue.method (ReflectliteValue.valueError "reflectlite.Value.Elem" 0) ReflectliteValue.elem) Tryd.func70 (by kernel_rfl) (by kernel_rfl) (by kernel_rfl) (by kernel_rfl)
  have hSt := @run_callFunc_extern Tryd.prog 71 _ ReflectliteValue.set Tryd.func71 (by kernel_rfl) (by kernel_rfl) (by kernel_rfl) (by kernel_rfl)
  have valueOfPE := A.valueOfPE
  have typePE := A.typePE
  have kindPE := A.kindPE
  have kindE := A.kindE
  have elemPE := A.elemPE
  have implementsE := A.implementsE
  have typeOfE := A.typeOfE
  have assignableE := A.assignableE
  have methodKind := A.methodKind
  have methodElem := A.methodElem
  have methodImplements := A.methodImplements
  have methodAssignableTo := A.methodAssignableTo
  have vE := A.valueOfE
  have tF := A.typeOfF
  have aFE := A.assignableFE
  have nA := A.noAs ⟨g, 0, none⟩
  have hU := A.hasUnwrap ⟨g, 0, none⟩
  have mU := A.methodUnwrap ⟨g, 0, none⟩
  have Hu := Lib.hid (unwrap_any g a c _ (((Fault.fr hF ((Fr.refl None' w).alloc _) (fun h => h)).alloc _).alloc _ : Fault (((w.alloc (.cells #[.pointer (some t)] 93)).alloc (.cells #[.pointer (some ⟨4, 93, none⟩), .pointer (some ⟨w.heap.size, 0, none⟩), .int .u64 150] 123)).alloc (.cells #[.pointer (some ⟨4, 93, none⟩), .pointer (some ⟨w.heap.size, 0, none⟩), .int .u64 150] 123)) g a c))
  unfold ErrT at hg
  have hlt : 2 < w.heap.size := lt_of_cell hg
  have htl : t.block < w.heap.size := lt_of_cell ht0
  have n8 := A.isNilPE ⟨w.heap.size, 0, none⟩ t ((w.alloc (.cells #[.pointer (some t)] 93)).alloc (.cells #[.pointer (some ⟨4, 93, none⟩), .pointer (some ⟨w.heap.size, 0, none⟩), .int .u64 150] 123)) (by simp)
  have hg2 : ((w.alloc (.cells #[.pointer (some t)] 93)).alloc (.cells #[.pointer (some ⟨4, 93, none⟩), .pointer (some ⟨w.heap.size, 0, none⟩), .int .u64 150] 123)).cell? ⟨2, 0, none⟩ = some (.iface 151 (.agg #[.pointer (some ⟨4, 46, none⟩)])) := by
    rw [World.cell?_alloc_lt _ _ ⟨2, 0, none⟩ (by simp; omega), World.cell?_alloc_lt _ _ ⟨2, 0, none⟩ hlt]; exact hg
  have el := A.elemVE ⟨w.heap.size, 0, none⟩ t (((w.alloc (.cells #[.pointer (some t)] 93)).alloc (.cells #[.pointer (some ⟨4, 93, none⟩), .pointer (some ⟨w.heap.size, 0, none⟩), .int .u64 150] 123)).alloc (.cells #[.pointer (some ⟨4, 93, none⟩), .pointer (some ⟨w.heap.size, 0, none⟩), .int .u64 150] 123)) (by rw [World.cell?_alloc_lt _ _ ⟨w.heap.size, 0, none⟩ (by simp; omega)]; simp)
  have st := A.setE t ⟨w.heap.size + 1 + 1 + 1, 0, none⟩ (.int .i64 c) old rfl rfl ((((w.alloc (.cells #[.pointer (some t)] 93)).alloc (.cells #[.pointer (some ⟨4, 93, none⟩), .pointer (some ⟨w.heap.size, 0, none⟩), .int .u64 150] 123)).alloc (.cells #[.pointer (some ⟨4, 93, none⟩), .pointer (some ⟨w.heap.size, 0, none⟩), .int .u64 150] 123)).alloc (.cells #[.int .i64 c] 39))
    (by rw [World.cell?_alloc_at _ _ _ _ (by simp)]; rfl)
    (by rw [World.cell?_alloc_lt _ _ t (by simp; omega), World.cell?_alloc_lt _ _ t (by simp; omega), World.cell?_alloc_lt _ _ t (by simp; omega), World.cell?_alloc_lt _ _ t htl]; exact ht0)
    (by rw [World.frozen?_alloc_old _ _ t (by simp; omega), World.frozen?_alloc_old _ _ t (by simp; omega), World.frozen?_alloc_old _ _ t (by simp; omega), World.frozen?_alloc_old _ _ t (Nat.ne_of_lt htl)]; exact hf0)
  clear hF hf0 ht0 hg
  unfold errV
  go_enter Tryd.func33, Tryd.ntmps33
  go_wp2
  refine wp_loop_rounds 2 ?_
  rw [rounds_succ]
  go_wp2_with (first | (go_at_call 103; refine Hu.out.mono ?_; rintro e1 w1 ⟨rfl, rfl⟩) | go_in)
  rw [rounds_succ]
  go_wp2
  go_ret
  exact ⟨rfl, rfl⟩

end Go.Proofs.YtodkhoclbhdihaaDoor
