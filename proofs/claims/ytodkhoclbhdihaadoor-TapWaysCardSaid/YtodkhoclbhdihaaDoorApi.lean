/-
  Contracts of package api's errors: Wrap, and errors.As, errors.Is, Code, Place over what Wrap makes. (Package errors is walked whole, as the toy 'toyas' of the guide does it.)
-/
import Derived.Test.YtodkhoclbhdihaaDoorRows
import Derived.Test.YtodkhoclbhdihaaDoorBase
import Derived.LaidEql
import Derived.Stop.Asserts
import Derived.RowKitTokens
namespace Go.Proofs.YtodkhoclbhdihaaDoor
open Go.RowKit Go.Extern.Stop Go.Stop Go.Extern

/-- The error that Wrap(at, code) makes: a pointer to a new Fault. -/
def errV (g : Nat) : Value := .iface 97 (.pointer (some ⟨g, 0, none⟩))
def faultCells (at_ code : Int) : Array Value := #[.int .i64 at_, .iface 39 (.int .i64 code)]
def Fault (w : World) (g : Nat) (at_ code : Int) : Prop := Blk w g 99 (faultCells at_ code)
theorem Fault.at_ {w : World} {g : Nat} {a c : Int} (h : Fault w g a c) : w.cell? ⟨g, 0, none⟩ = some (.int .i64 a) := Blk.cell h 0
theorem Fault.err {w : World} {g : Nat} {a c : Int} (h : Fault w g a c) : w.cell? ⟨g, 1, none⟩ = some (.iface 39 (.int .i64 c)) := Blk.cell h 1

theorem Fault.fr {w w' : World} {S : Nat → Prop} {g : Nat} {a c : Int} (h : Fault w g a c) (hb : Fr S w w') (hs : ¬ S g) : Fault w' g a c := Blk.fr h hb hs
theorem Fault.alloc {w : World} {g : Nat} {a c : Int} (h : Fault w g a c) (o : Obj) : Fault (w.alloc o) g a c := Blk.alloc h o

theorem wrap_any (a c : Int) (w : World) : Calls Tryd.prog 22 #[.int .i64 a, .int .i64 c] w fun e w' => e = .returned (errV w.heap.size) ∧ Fault w' w.heap.size a c ∧ w' = w.alloc (.cells (faultCells a c) 99) := by
  have hb : Fault (w.alloc (.cells (faultCells a c) 99)) w.heap.size a c := Blk.new w _ _
  unfold faultCells at *
  go_enter Tryd.func22, Tryd.ntmps22
  go_wp2
  go_ret
  exact ⟨rfl, hb, rfl⟩

theorem unwrap_any (g : Nat) (a c : Int) (w : World) (hF : Fault w g a c) : Calls Tryd.prog 103 #[.pointer (some ⟨g, 0, none⟩)] w fun e w' => e = .returned (.iface 39 (.int .i64 c)) ∧ w = w' := by
  have h0 := hF.err
  go_enter Tryd.func103, Tryd.ntmps103
  go_wp2
  go_ret
  exact ⟨rfl, rfl⟩

/-! ### errors.As: closed facts on the model's entries for internal/reflectlite at this program's types -/

theorem A.valueOfPF (t : Addr) (w : World) : (ReflectliteValue.unpack (.iface 143 (.pointer (some t)))).run Tryd.prog w
    = .ok (.agg #[.pointer (some ⟨4, 143, none⟩), .pointer (some ⟨w.heap.size, 0, none⟩), .int .u64 150]) (w.alloc (.cells #[.pointer (some t)] 143)) := by kernel_rfl
theorem A.typePF (a : Addr) (w : World) : (ReflectliteValue.methodAny (ReflectliteValue.valueError "reflectlite.Value.Type" 0) (fun t _ _ _ => ReflectliteType.toType t) #[.agg #[.pointer (some ⟨4, 143, none⟩), .pointer (some a), .int .u64 150]]).run Tryd.prog w
    = .ok (.iface 151 (.agg #[.pointer (some ⟨4, 143, none⟩)])) w := by kernel_rfl
theorem A.kindPF (w : World) : ((ReflectliteType.abiMethod fun t => (fun a : Nat => Value.int IntKind.u8 (a : Int)) <$> Rtype.kind t) #[.pointer (some ⟨4, 143, none⟩)]).run Tryd.prog w = .ok (.int .u8 22) w := by kernel_rfl
theorem A.kindF (w : World) : ((ReflectliteType.abiMethod fun t => (fun a : Nat => Value.int IntKind.u8 (a : Int)) <$> Rtype.kind t) #[.pointer (some ⟨4, 97, none⟩)]).run Tryd.prog w = .ok (.int .u8 22) w := by kernel_rfl
theorem A.partsPF (a : Addr) (w : World) : (ReflectliteValue.parts (.agg #[.pointer (some ⟨4, 143, none⟩), .pointer (some a), .int .u64 150])).run Tryd.prog w = .ok (some (143, a, 150)) w := by kernel_rfl
theorem A.elemPF (w : World) : (ReflectliteType.method ReflectliteType.elem #[.agg #[.pointer (some ⟨4, 143, none⟩)]]).run Tryd.prog w = .ok (.iface 151 (.agg #[.pointer (some ⟨4, 97, none⟩)])) w := by kernel_rfl
theorem A.implementsF (w : World) : (ReflectliteType.relation "Implements" ReflectliteType.implements_ #[.agg #[.pointer (some ⟨4, 97, none⟩)], .iface 151 (.agg #[.pointer (some ⟨4, 46, none⟩)])]).run Tryd.prog w = .ok (.bool true) w := by kernel_rfl
theorem A.typeOfF (v : Value) (w : World) : (ReflectliteType.typeOf #[.iface 97 v]).run Tryd.prog w = .ok (.iface 151 (.agg #[.pointer (some ⟨4, 97, none⟩)])) w := by kernel_rfl
theorem A.assignableF (w : World) : (ReflectliteType.relation "AssignableTo" ReflectliteType.assignableTo #[.agg #[.pointer (some ⟨4, 97, none⟩)], .iface 151 (.agg #[.pointer (some ⟨4, 97, none⟩)])]).run Tryd.prog w = .ok (.bool true) w := by kernel_rfl
theorem A.elemOfPF (w : World) : (Rtype.elem? 143).run Tryd.prog w = .ok (some 97) w := by kernel_rfl
theorem A.mkF (p : Addr) (w : World) : (ReflectliteValue.mk 97 p ReflectliteValue.flagAddr).run Tryd.prog w = .ok (.agg #[.pointer (some ⟨4, 97, none⟩), .pointer (some p), .int .u64 406]) w := by kernel_rfl
theorem A.partsAF (a : Addr) (w : World) : (ReflectliteValue.parts (.agg #[.pointer (some ⟨4, 97, none⟩), .pointer (some a), .int .u64 406])).run Tryd.prog w = .ok (some (97, a, 406)) w := by kernel_rfl
theorem A.partsF (a : Addr) (w : World) : (ReflectliteValue.parts (.agg #[.pointer (some ⟨4, 97, none⟩), .pointer (some a), .int .u64 150])).run Tryd.prog w = .ok (some (97, a, 150)) w := by kernel_rfl
theorem A.directF (w : World) : (Rtype.directlyAssignable 97 97).run Tryd.prog w = .ok true w := by kernel_rfl

theorem A.valueOfPE (t : Addr) (w : World) : (ReflectliteValue.unpack (.iface 93 (.pointer (some t)))).run Tryd.prog w
    = .ok (.agg #[.pointer (some ⟨4, 93, none⟩), .pointer (some ⟨w.heap.size, 0, none⟩), .int .u64 150]) (w.alloc (.cells #[.pointer (some t)] 93)) := by kernel_rfl
theorem A.typePE (a : Addr) (w : World) : (ReflectliteValue.methodAny (ReflectliteValue.valueError "reflectlite.Value.Type" 0) (fun t _ _ _ => ReflectliteType.toType t) #[.agg #[.pointer (some ⟨4, 93, none⟩), .pointer (some a), .int .u64 150]]).run Tryd.prog w
    = .ok (.iface 151 (.agg #[.pointer (some ⟨4, 93, none⟩)])) w := by kernel_rfl
theorem A.kindPE (w : World) : ((ReflectliteType.abiMethod fun t => (fun a : Nat => Value.int IntKind.u8 (a : Int)) <$> Rtype.kind t) #[.pointer (some ⟨4, 93, none⟩)]).run Tryd.prog w = .ok (.int .u8 22) w := by kernel_rfl
theorem A.kindE (w : World) : ((ReflectliteType.abiMethod fun t => (fun a : Nat => Value.int IntKind.u8 (a : Int)) <$> Rtype.kind t) #[.pointer (some ⟨4, 39, none⟩)]).run Tryd.prog w = .ok (.int .u8 2) w := by kernel_rfl
theorem A.partsPE (a : Addr) (w : World) : (ReflectliteValue.parts (.agg #[.pointer (some ⟨4, 93, none⟩), .pointer (some a), .int .u64 150])).run Tryd.prog w = .ok (some (93, a, 150)) w := by kernel_rfl
theorem A.elemPE (w : World) : (ReflectliteType.method ReflectliteType.elem #[.agg #[.pointer (some ⟨4, 93, none⟩)]]).run Tryd.prog w = .ok (.iface 151 (.agg #[.pointer (some ⟨4, 39, none⟩)])) w := by kernel_rfl
theorem A.implementsE (w : World) : (ReflectliteType.relation "Implements" ReflectliteType.implements_ #[.agg #[.pointer (some ⟨4, 39, none⟩)], .iface 151 (.agg #[.pointer (some ⟨4, 46, none⟩)])]).run Tryd.prog w = .ok (.bool true) w := by kernel_rfl
theorem A.typeOfE (v : Value) (w : World) : (ReflectliteType.typeOf #[.iface 39 v]).run Tryd.prog w = .ok (.iface 151 (.agg #[.pointer (some ⟨4, 39, none⟩)])) w := by kernel_rfl
theorem A.assignableE (w : World) : (ReflectliteType.relation "AssignableTo" ReflectliteType.assignableTo #[.agg #[.pointer (some ⟨4, 39, none⟩)], .iface 151 (.agg #[.pointer (some ⟨4, 39, none⟩)])]).run Tryd.prog w = .ok (.bool true) w := by kernel_rfl
theorem A.elemOfPE (w : World) : (Rtype.elem? 93).run Tryd.prog w = .ok (some 39) w := by kernel_rfl
theorem A.mkE (p : Addr) (w : World) : (ReflectliteValue.mk 39 p ReflectliteValue.flagAddr).run Tryd.prog w = .ok (.agg #[.pointer (some ⟨4, 39, none⟩), .pointer (some p), .int .u64 386]) w := by kernel_rfl
theorem A.partsAE (a : Addr) (w : World) : (ReflectliteValue.parts (.agg #[.pointer (some ⟨4, 39, none⟩), .pointer (some a), .int .u64 386])).run Tryd.prog w = .ok (some (39, a, 386)) w := by kernel_rfl
theorem A.partsE (a : Addr) (w : World) : (ReflectliteValue.parts (.agg #[.pointer (some ⟨4, 39, none⟩), .pointer (some a), .int .u64 130])).run Tryd.prog w = .ok (some (39, a, 130)) w := by kernel_rfl
theorem A.directE (w : World) : (Rtype.directlyAssignable 39 39).run Tryd.prog w = .ok true w := by kernel_rfl

theorem A.valueOfF (e : Addr) (w : World) : (ReflectliteValue.unpack (.iface 97 (.pointer (some e)))).run Tryd.prog w
    = .ok (.agg #[.pointer (some ⟨4, 97, none⟩), .pointer (some ⟨w.heap.size, 0, none⟩), .int .u64 150]) (w.alloc (.cells #[.pointer (some e)] 97)) := by kernel_rfl
theorem A.valueOfE (c : Int) (w : World) : (ReflectliteValue.unpack (.iface 39 (.int .i64 c))).run Tryd.prog w
    = .ok (.agg #[.pointer (some ⟨4, 39, none⟩), .pointer (some ⟨w.heap.size, 0, none⟩), .int .u64 130]) (w.alloc (.cells #[.int .i64 c] 39)) := by kernel_rfl
theorem A.assignableFE (w : World) : (ReflectliteType.relation "AssignableTo" ReflectliteType.assignableTo #[.agg #[.pointer (some ⟨4, 97, none⟩)], .iface 151 (.agg #[.pointer (some ⟨4, 39, none⟩)])]).run Tryd.prog w = .ok (.bool false) w := by kernel_rfl

end Go.Proofs.YtodkhoclbhdihaaDoor
