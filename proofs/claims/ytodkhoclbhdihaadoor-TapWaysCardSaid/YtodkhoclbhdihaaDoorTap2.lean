/-
  Contract of tap's proves.
-/
import Derived.Test.YtodkhoclbhdihaaDoorTap1
namespace Go.Proofs.YtodkhoclbhdihaaDoor
open Go.RowKit

def toldV (rev : Int) (o : GOp) : Value := .agg (.int .i64 rev :: opCells o).toArray
def dgV (fr to_ : Int) (b : Value) (sp : Bool) : Value := .agg #[.int .i64 fr, .int .i64 to_, b, .bool sp]
def provV (m : GMsg) : Value := if m.kind = 5 then .iface 71 (toldV m.rev m.op) else if m.kind = 2 then .iface 78 (editV ⟨m.tag, m.op⟩) else .nilIface

set_option maxHeartbeats 8000000 in
theorem proves_any (m : GMsg) (fr to_ : Int) (b : Value) (sp : Bool) (w : World) :
    Calls Tryd.prog 24 #[msgV m, dgV fr to_ b sp] w fun e w' => e = .returned (.tuple #[provV m, .bool (rightWay m fr to_)]) ∧ Fr None' w w' := by
  obtain ⟨k, ep, cl, hv, fi, nu, ac, rv, tg, ⟨ok, op, oc, ol, os⟩⟩ := m
  have HP : Hid (∀ b, (k = 5 → b = Value.iface 71 (.agg #[.int .i64 rv, .int .i64 ok, .int .i64 op, .int .u8 (oc.toNat : Int), .int .i64 ol, .int .i64 os])) → (k = 2 → b = Value.iface 78 (.agg #[.int .i64 tg, .int .i64 ok, .int .i64 op, .int .u8 (oc.toNat : Int), .int .i64 ol, .int .i64 os])) → (k ≠ 5 → k ≠ 2 → b = .nilIface) → provV ⟨k, ep, cl, hv, fi, nu, ac, rv, tg, ⟨ok, op, oc, ol, os⟩⟩ = b) := Lib.hid fun b h5 h2 hn => by
    unfold provV
    by_cases e5 : k = 5
    · rw [if_pos e5, h5 e5]; rfl
    · rw [if_neg e5]
      by_cases e2 : k = 2
      · rw [if_pos e2, h2 e2]; rfl
      · rw [if_neg e2, hn e5 e2]
  have HD : Hid (k = 4 ∨ k = 6 ∨ k = 5 → rightWay ⟨k, ep, cl, hv, fi, nu, ac, rv, tg, ⟨ok, op, oc, ol, os⟩⟩ fr to_ = ((fr == 0) && (to_ == cl))) := Lib.hid fun h => by
    unfold rightWay; rw [if_pos h]; rfl
  have HU : Hid (¬ (k = 4 ∨ k = 6 ∨ k = 5) → rightWay ⟨k, ep, cl, hv, fi, nu, ac, rv, tg, ⟨ok, op, oc, ol, os⟩⟩ fr to_ = ((fr == cl) && (to_ == 0))) := Lib.hid fun h => by
    unfold rightWay; rw [if_neg h]; rfl
  generalize rightWay ⟨k, ep, cl, hv, fi, nu, ac, rv, tg, ⟨ok, op, oc, ol, os⟩⟩ fr to_ = way at HD HU
  generalize provV ⟨k, ep, cl, hv, fi, nu, ac, rv, tg, ⟨ok, op, oc, ol, os⟩⟩ = pv at HP
  unfold msgV msgCells opCells dgV
  dsimp only
  generalize (oc.toNat : Int) = c at *
  by_cases k4 : k = 4
  · have q4 : (k == 4) = true := by simpa using k4
    have Hk4 := Lib.hid k4
    clear k4
    cases hg : (fr == 0)
    · have HW : Hid (way = (false && (to_ == cl))) := Lib.hid (by have := HD.out (by have := Hk4.out; omega); rw [hg] at this; exact this)
      go_enter Tryd.func24, Tryd.ntmps24
      go_wp2
      go_quiet (fail)
      go_wp2
      rw [HP.out (Value.nilIface) (fun h => by first | rfl | (exfalso; have := Hk4.out; omega)) (fun h => by first | rfl | (exfalso; have := Hk4.out; omega)) (fun _ _ => by first | rfl | (exfalso; have := Hk4.out; omega))]
      go_ret2
      exact ⟨by rw [HW.out]; simp, Fr.drewN (((Fr.refl _ _).alloc _).alloc _) _⟩
    · have HW : Hid (way = (true && (to_ == cl))) := Lib.hid (by have := HD.out (by have := Hk4.out; omega); rw [hg] at this; exact this)
      go_enter Tryd.func24, Tryd.ntmps24
      go_wp2
      go_quiet (fail)
      go_wp2
      rw [HP.out (Value.nilIface) (fun h => by first | rfl | (exfalso; have := Hk4.out; omega)) (fun h => by first | rfl | (exfalso; have := Hk4.out; omega)) (fun _ _ => by first | rfl | (exfalso; have := Hk4.out; omega))]
      go_ret2
      exact ⟨by rw [HW.out]; simp, Fr.drewN (((Fr.refl _ _).alloc _).alloc _) _⟩
  have q4 : (k == 4) = false := by simpa using k4
  by_cases k6 : k = 6
  · have q6 : (k == 6) = true := by simpa using k6
    have Hk4 := Lib.hid k4
    have Hk6 := Lib.hid k6
    clear k4 k6
    cases hg : (fr == 0)
    · have HW : Hid (way = (false && (to_ == cl))) := Lib.hid (by have := HD.out (by have := Hk6.out; omega); rw [hg] at this; exact this)
      go_enter Tryd.func24, Tryd.ntmps24
      go_wp2
      go_quiet (fail)
      go_wp2
      rw [HP.out (Value.nilIface) (fun h => by first | rfl | (exfalso; have := Hk4.out; have := Hk6.out; omega)) (fun h => by first | rfl | (exfalso; have := Hk4.out; have := Hk6.out; omega)) (fun _ _ => by first | rfl | (exfalso; have := Hk4.out; have := Hk6.out; omega))]
      go_ret2
      exact ⟨by rw [HW.out]; simp, Fr.drewN (((Fr.refl _ _).alloc _).alloc _) _⟩
    · have HW : Hid (way = (true && (to_ == cl))) := Lib.hid (by have := HD.out (by have := Hk6.out; omega); rw [hg] at this; exact this)
      go_enter Tryd.func24, Tryd.ntmps24
      go_wp2
      go_quiet (fail)
      go_wp2
      rw [HP.out (Value.nilIface) (fun h => by first | rfl | (exfalso; have := Hk4.out; have := Hk6.out; omega)) (fun h => by first | rfl | (exfalso; have := Hk4.out; have := Hk6.out; omega)) (fun _ _ => by first | rfl | (exfalso; have := Hk4.out; have := Hk6.out; omega))]
      go_ret2
      exact ⟨by rw [HW.out]; simp, Fr.drewN (((Fr.refl _ _).alloc _).alloc _) _⟩
  have q6 : (k == 6) = false := by simpa using k6
  by_cases k5 : k = 5
  · have q5 : (k == 5) = true := by simpa using k5
    have Hk4 := Lib.hid k4
    have Hk6 := Lib.hid k6
    have Hk5 := Lib.hid k5
    clear k4 k6 k5
    cases hg : (fr == 0)
    · have HW : Hid (way = (false && (to_ == cl))) := Lib.hid (by have := HD.out (by have := Hk5.out; omega); rw [hg] at this; exact this)
      go_enter Tryd.func24, Tryd.ntmps24
      go_wp2
      go_quiet (fail)
      go_wp2
      rw [HP.out (Value.iface 71 (.agg #[.int .i64 rv, .int .i64 ok, .int .i64 op, .int .u8 c, .int .i64 ol, .int .i64 os])) (fun h => by first | rfl | (exfalso; have := Hk4.out; have := Hk6.out; have := Hk5.out; omega)) (fun h => by first | rfl | (exfalso; have := Hk4.out; have := Hk6.out; have := Hk5.out; omega)) (fun _ _ => by first | rfl | (exfalso; have := Hk4.out; have := Hk6.out; have := Hk5.out; omega))]
      go_ret2
      exact ⟨by rw [HW.out]; simp, Fr.drewN (((Fr.refl _ _).alloc _).alloc _) _⟩
    · have HW : Hid (way = (true && (to_ == cl))) := Lib.hid (by have := HD.out (by have := Hk5.out; omega); rw [hg] at this; exact this)
      go_enter Tryd.func24, Tryd.ntmps24
      go_wp2
      go_quiet (fail)
      go_wp2
      rw [HP.out (Value.iface 71 (.agg #[.int .i64 rv, .int .i64 ok, .int .i64 op, .int .u8 c, .int .i64 ol, .int .i64 os])) (fun h => by first | rfl | (exfalso; have := Hk4.out; have := Hk6.out; have := Hk5.out; omega)) (fun h => by first | rfl | (exfalso; have := Hk4.out; have := Hk6.out; have := Hk5.out; omega)) (fun _ _ => by first | rfl | (exfalso; have := Hk4.out; have := Hk6.out; have := Hk5.out; omega))]
      go_ret2
      exact ⟨by rw [HW.out]; simp, Fr.drewN (((Fr.refl _ _).alloc _).alloc _) _⟩
  have q5 : (k == 5) = false := by simpa using k5
  by_cases k2 : k = 2
  · have q2 : (k == 2) = true := by simpa using k2
    have Hk4 := Lib.hid k4
    have Hk6 := Lib.hid k6
    have Hk5 := Lib.hid k5
    have Hk2 := Lib.hid k2
    clear k4 k6 k5 k2
    cases hg : (fr == cl)
    · have HW : Hid (way = (false && (to_ == 0))) := Lib.hid (by have := HU.out (by have := Hk4.out; have := Hk6.out; have := Hk5.out; have := Hk2.out; omega); rw [hg] at this; exact this)
      go_enter Tryd.func24, Tryd.ntmps24
      go_wp2
      go_quiet (fail)
      go_wp2
      rw [HP.out (Value.iface 78 (.agg #[.int .i64 tg, .int .i64 ok, .int .i64 op, .int .u8 c, .int .i64 ol, .int .i64 os])) (fun h => by first | rfl | (exfalso; have := Hk4.out; have := Hk6.out; have := Hk5.out; have := Hk2.out; omega)) (fun h => by first | rfl | (exfalso; have := Hk4.out; have := Hk6.out; have := Hk5.out; have := Hk2.out; omega)) (fun _ _ => by first | rfl | (exfalso; have := Hk4.out; have := Hk6.out; have := Hk5.out; have := Hk2.out; omega))]
      go_ret2
      exact ⟨by rw [HW.out]; simp, Fr.drewN (((Fr.refl _ _).alloc _).alloc _) _⟩
    · have HW : Hid (way = (true && (to_ == 0))) := Lib.hid (by have := HU.out (by have := Hk4.out; have := Hk6.out; have := Hk5.out; have := Hk2.out; omega); rw [hg] at this; exact this)
      go_enter Tryd.func24, Tryd.ntmps24
      go_wp2
      go_quiet (fail)
      go_wp2
      rw [HP.out (Value.iface 78 (.agg #[.int .i64 tg, .int .i64 ok, .int .i64 op, .int .u8 c, .int .i64 ol, .int .i64 os])) (fun h => by first | rfl | (exfalso; have := Hk4.out; have := Hk6.out; have := Hk5.out; have := Hk2.out; omega)) (fun h => by first | rfl | (exfalso; have := Hk4.out; have := Hk6.out; have := Hk5.out; have := Hk2.out; omega)) (fun _ _ => by first | rfl | (exfalso; have := Hk4.out; have := Hk6.out; have := Hk5.out; have := Hk2.out; omega))]
      go_ret2
      exact ⟨by rw [HW.out]; simp, Fr.drewN (((Fr.refl _ _).alloc _).alloc _) _⟩
  have q2 : (k == 2) = false := by simpa using k2
  have Hk4 := Lib.hid k4
  have Hk6 := Lib.hid k6
  have Hk5 := Lib.hid k5
  have Hk2 := Lib.hid k2
  clear k4 k6 k5 k2
  cases hg : (fr == cl)
  · have HW : Hid (way = (false && (to_ == 0))) := Lib.hid (by have := HU.out (by have := Hk4.out; have := Hk6.out; have := Hk5.out; have := Hk2.out; omega); rw [hg] at this; exact this)
    go_enter Tryd.func24, Tryd.ntmps24
    go_wp2
    go_quiet (fail)
    go_wp2
    rw [HP.out (Value.nilIface) (fun h => by first | rfl | (exfalso; have := Hk4.out; have := Hk6.out; have := Hk5.out; have := Hk2.out; omega)) (fun h => by first | rfl | (exfalso; have := Hk4.out; have := Hk6.out; have := Hk5.out; have := Hk2.out; omega)) (fun _ _ => by first | rfl | (exfalso; have := Hk4.out; have := Hk6.out; have := Hk5.out; have := Hk2.out; omega))]
    go_ret2
    exact ⟨by rw [HW.out]; simp, Fr.drewN (((Fr.refl _ _).alloc _).alloc _) _⟩
  · have HW : Hid (way = (true && (to_ == 0))) := Lib.hid (by have := HU.out (by have := Hk4.out; have := Hk6.out; have := Hk5.out; have := Hk2.out; omega); rw [hg] at this; exact this)
    go_enter Tryd.func24, Tryd.ntmps24
    go_wp2
    go_quiet (fail)
    go_wp2
    rw [HP.out (Value.nilIface) (fun h => by first | rfl | (exfalso; have := Hk4.out; have := Hk6.out; have := Hk5.out; have := Hk2.out; omega)) (fun h => by first | rfl | (exfalso; have := Hk4.out; have := Hk6.out; have := Hk5.out; have := Hk2.out; omega)) (fun _ _ => by first | rfl | (exfalso; have := Hk4.out; have := Hk6.out; have := Hk5.out; have := Hk2.out; omega))]
    go_ret2
    exact ⟨by rw [HW.out]; simp, Fr.drewN (((Fr.refl _ _).alloc _).alloc _) _⟩
end Go.Proofs.YtodkhoclbhdihaaDoor
