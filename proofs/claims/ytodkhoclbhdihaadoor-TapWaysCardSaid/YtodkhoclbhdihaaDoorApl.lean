/-
  Contracts of errors.Is and api.Code over the errors that Wrap makes.
-/
import Derived.Test.YtodkhoclbhdihaaDoorApk
namespace Go.Proofs.YtodkhoclbhdihaaDoor
open Go.RowKit Go.Extern.Stop Go.Stop Go.Extern

theorem eql_fault_errno (e : Addr) (c : Int) (w : World) : (binOp .eql 46 (.iface 97 (.pointer (some e))) (.iface 39 (.int .i64 c))).run Tryd.prog w = .ok (.bool false) w := by kernel_rfl
theorem eql_errno (a b : Int) (w : World) : (binOp .eql 46 (.iface 39 (.int .i64 a)) (.iface 39 (.int .i64 b))).run Tryd.prog w = .ok (.bool (a == b)) w := by kernel_rfl
theorem A.comparableE (w : World) : (ReflectliteType.method (fun t => do Rtype.noPackHeld "Comparable" t; (fun a : TypeInfo => Value.bool a.comparable) <$> typeInfo t) #[.agg #[.pointer (some ⟨4, 39, none⟩)]]).run Tryd.prog w = .ok (.bool true) w := by kernel_rfl
set_option maxHeartbeats 4000000 in
theorem is_any (g : Nat) (a c k : Int) (w : World) (hF : Fault w g a c) :
    Calls Tryd.prog 63 #[errV g, .iface 39 (.int .i64 k)] w fun ev w' => ev = .returned (.bool (c == k)) ∧ w = w' := by
  have hTO := @run_callFunc_extern Tryd.prog 69 _ ReflectliteType.typeOf Tryd.func69 (by kernel_rfl) (by kernel_rfl) (by kernel_rfl) (by kernel_rfl)
  have hCm := @run_callFunc_extern Tryd.prog 109 _ (ReflectliteType.method (fun t => do Rtype.noPackHeld "Comparable" t; pure (.bool (← typeInfo t).comparable))) Tryd.func109 (by kernel_rfl) (by kernel_rfl) (by kernel_rfl) (by kernel_rfl)
  have tE := A.typeOfE
  have mC := A.methodComparable
  have cE := A.comparableE
  have e1 := eql_fault_errno ⟨g, 0, none⟩ k
  have e2 := eql_errno c k
  have nI := A.noIs ⟨g, 0, none⟩
  have nE := A.noIsE c
  have uE := A.noUnwrapE c
  have sE := A.noUnwrapsE c
  have hU := A.hasUnwrap ⟨g, 0, none⟩
  have mU := A.methodUnwrap ⟨g, 0, none⟩
  have Hu := Lib.hid (unwrap_any g a c w hF)
  clear hF
  unfold errV
  by_cases h : c = k
  · have hk : (c == k) = true := by simp [h]
    have HK := Lib.hid h
    clear h
    go_enter Tryd.func63, Tryd.ntmps63
    go_wp2
    refine wp_loop_rounds 2 ?_
    rw [rounds_succ]
    go_wp2_with (first | (go_at_call 103; refine Hu.out.mono ?_; rintro e1 w1 ⟨rfl, rfl⟩) | go_in)
    rw [rounds_succ]
    go_wp2
    go_ret
    exact ⟨by rw [hk]; rfl, rfl⟩
  · have hk : (c == k) = false := by simp [h]
    have HK := Lib.hid h
    clear h
    go_enter Tryd.func63, Tryd.ntmps63
    go_wp2
    refine wp_loop_rounds 2 ?_
    rw [rounds_succ]
    go_wp2_with (first | (go_at_call 103; refine Hu.out.mono ?_; rintro e1 w1 ⟨rfl, rfl⟩) | go_in)
    rw [rounds_succ]
    go_wp2
    go_ret
    exact ⟨by rw [hk]; rfl, rfl⟩

/-- The error's Errno. -/
theorem code_nil (w : World) : Calls Tryd.prog 20 #[.nilIface] w fun ev w' => ev = .returned (.int .i64 0) ∧ Fr None' w w' := by
  go_enter Tryd.func20, Tryd.ntmps20
  go_wp2
  go_ret
  exact ⟨rfl, (Fr.refl _ _).alloc _⟩

theorem fr_as {w w0 : World} {t : Nat} {a b c d : Obj} {v : Value} (h : Fr None' w w0) (ht : w.heap.size ≤ t) : Fr None' w (((((w0.alloc a).alloc b).alloc c).alloc d).setCell ⟨t, 0, none⟩ v) :=
  ((((h.alloc a).alloc b).alloc c).alloc d).setCell (.inl ht) v

theorem code_fault (g : Nat) (a c : Int) (w : World) (hg : ErrT w) (hF : Fault w g a c) :
    Calls Tryd.prog 20 #[errV g] w fun ev w' => ev = .returned (.int .i64 c) ∧ Fr None' w w' := by
  have hg1 : ErrT (w.alloc (.cells #[.int .i64 0] 39)) := by
    unfold ErrT at *
    rw [World.cell?_alloc_lt _ _ ⟨2, 0, none⟩ (lt_of_cell hg)]
    exact hg
  have Hc := Lib.hid (as_errno0 g a c ⟨w.heap.size, 0, none⟩ (.int .i64 0) _ hg1 (hF.alloc _) (by simp) (Blk.frozen (Blk.new w 39 #[.int .i64 0]) 0))
  clear hF hg hg1
  unfold errV at *
  go_enter Tryd.func20, Tryd.ntmps20
  go_wp2_with (go_at_call 33; refine Hc.out.mono ?_; rintro e w' ⟨rfl, rfl⟩)
  go_ret
  exact ⟨rfl, (((((Fr.refl _ _).alloc _).alloc _).alloc _).alloc _).alloc _⟩

theorem fr_as' {w : World} {t : Addr} {a b c d : Obj} {v : Value} : Fr (Only t.block) w (((((w.alloc a).alloc b).alloc c).alloc d).setCell t v) :=
  Fr.setCell (S := Only t.block) (((((Fr.refl _ _).alloc a).alloc b).alloc c).alloc d) (.inr (show t.block = t.block from rfl)) v

/-- errors.As at a *Fault variable: it gets the pointer. -/
theorem as_fault (g t : Nat) (ty : TypeId) (old : Value) (w : World) (hg : ErrT w) (hb : Blk w t ty #[old]) :
    Calls Tryd.prog 33 #[errV g, .iface 143 (.pointer (some ⟨t, 0, none⟩))] w fun ev w' => ev = .returned (.bool true) ∧ Blk w' t ty #[.pointer (some ⟨g, 0, none⟩)] ∧ Fr (Only t) w w' := by
  refine (as_fault0 ⟨g, 0, none⟩ ⟨t, 0, none⟩ old w hg (hb.cell 0) (hb.frozen 0)).mono fun e w' h => ⟨h.1, ?_, ?_⟩
  · rw [h.2]
    exact Blk.set_ ((((hb.alloc _).alloc _).alloc _).alloc _) 0 _
  · rw [h.2]
    exact fr_as' (t := ⟨t, 0, none⟩)

theorem ErrT.fr {w w' : World} {S : Nat → Prop} (h : ErrT w) (hf : Fr S w w') (hs : ¬ S 2) : ErrT w' := by
  unfold ErrT at *
  rw [hf.cell (p := ⟨2, 0, none⟩) (lt_of_cell h) hs]
  exact h

end Go.Proofs.YtodkhoclbhdihaaDoor
