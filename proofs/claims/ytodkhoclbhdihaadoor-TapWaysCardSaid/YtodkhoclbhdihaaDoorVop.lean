/-
  Contract of wire's values.op: the operation of a message's fields.
-/
import Derived.Test.YtodkhoclbhdihaaDoorPick
namespace Go.Proofs.YtodkhoclbhdihaaDoor
open Go.RowKit

theorem ch_of (x : Int) (h : 0 ≤ x) : (((UInt8.ofNat x.toNat).toNat : Nat) : Int) = x % 256 := by
  rw [UInt8.toNat_ofNat']
  omega
def opV (o : GOp) : Value := .agg (opCells o).toArray

set_option maxHeartbeats 2000000 in
theorem vop_any (g : Nat) (v : V) (w : World) (hv : Vals w g v) (h11 : 0 ≤ v 11) :
    Calls Tryd.prog 39 #[.pointer (some ⟨g, 0, none⟩)] w fun e w' => e = .returned (opV (opOf v)) ∧ Fr None' w w' := by
  have cg : ∀ i, w.cell? ⟨g, i, none⟩ = (#[.int .i64 (v 0), .int .i64 (v 1), .int .i64 (v 2), .int .i64 (v 3), .int .i64 (v 4), .int .i64 (v 5), .int .i64 (v 6), .int .i64 (v 7), .int .i64 (v 8), .int .i64 (v 9), .int .i64 (v 10), .int .i64 (v 11), .int .i64 (v 12), .int .i64 (v 13)] : Array Value)[i]? := Blk.cell hv
  have hlt : g < w.heap.size := Blk.lt hv
  have hfin : opV (opOf v) = .agg #[.int .i64 (v 9), .int .i64 (v 10), .int .u8 (v 11 % 256), .int .i64 (v 12), .int .i64 (v 13)] := by
    unfold opV opCells opOf
    rw [ch_of _ h11]
  rw [hfin]
  clear hfin hv
  go_enter Tryd.func39, Tryd.ntmps39
  go_wp2
  refine wp_region_tail 22 (by kernel_rfl) (by kernel_rfl) ?_
  simp only [List.take_succ_cons, List.take_zero, List.drop_succ_cons, List.drop_zero]
  repeat (go_big_quiet_step (fail))
  refine wpQuiet_nil ?_
  go_wp2
  exact bodyPost_ret (v := .agg #[.int .i64 (v 9), .int .i64 (v 10), .int .u8 (v 11 % 256), .int .i64 (v 12), .int .i64 (v 13)]) (by simp [results, Tryd.results39, go_sem]) rfl ⟨rfl, by first | exact ((Fr.refl _ _).alloc _).drew | exact ((Fr.refl _ _).drew.alloc _)⟩
end Go.Proofs.YtodkhoclbhdihaaDoor
