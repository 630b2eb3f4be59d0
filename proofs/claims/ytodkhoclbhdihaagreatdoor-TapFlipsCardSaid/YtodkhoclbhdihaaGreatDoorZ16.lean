/-
  Contract of api.Place over the errors that Wrap makes.
-/
import Derived.Test.YtodkhoclbhdihaaGreatDoorZ1
namespace Go.Proofs.YtodkhoclbhdihaaGreatDoor
open Go.RowKit Go.Extern.Stop Go.Stop Go.Extern

theorem place_nil (w : World) : Calls Tryz.prog 42 #[.nilIface] w fun ev w' => ev = .returned (.int .i64 (-1)) ∧ Fr None' w w' := by
  have Hc := Lib.hid fun t w => as_nil t w
  go_enter Tryz.func42, Tryz.ntmps42
  go_wp2_with (go_at_call 74; refine (Hc.out _ _).mono ?_; rintro e w' ⟨rfl, rfl⟩)
  go_ret
  exact ⟨rfl, (Fr.refl _ _).alloc _⟩

theorem place_fault (g : Nat) (a c : Int) (w : World) (hg : ErrT w) (hF : Fault w g a c) :
    Calls Tryz.prog 42 #[errV g] w fun ev w' => ev = .returned (.int .i64 a) ∧ Fr None' w w' := by
  have hf0 : Fr None' w (w.alloc (.cells #[.pointer none] 145)) := (Fr.refl _ _).alloc _
  have Hc := Lib.hid (as_fault g w.heap.size 145 (.pointer none) _ (hg.fr hf0 fun h => h) (Blk.new w 145 #[.pointer none]))
  have HF := Lib.hid (hF.fr hf0 fun h => h)
  have Hlt := Lib.hid hF.lt
  clear hF hg
  unfold errV at *
  go_enter Tryz.func42, Tryz.ntmps42
  go_wp2_with fail
  refine Hc.out.mono ?_
  rintro e w1 ⟨rfl, hb, hf⟩
  have h0 := (HF.out.fr hf (fun h => by have := Hlt.out; unfold Only at h; omega)).at_
  have h1 := hb.cell 0
  have Hf := Lib.hid hf
  clear hf hf0 hb
  go_wp2
  go_ret
  exact ⟨rfl, ((Fr.refl _ _).alloc _).trans Hf.out fun i hi hs => by unfold Only at hs; omega⟩
end Go.Proofs.YtodkhoclbhdihaaGreatDoor
