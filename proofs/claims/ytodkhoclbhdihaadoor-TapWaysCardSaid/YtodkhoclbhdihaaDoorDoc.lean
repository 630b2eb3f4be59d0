/-
  Contracts of package doc: within, Valid, Fits.
-/
import Derived.Test.YtodkhoclbhdihaaDoorTapP
import Derived.Test.YtodkhoclbhdihaaDoorVop
import Derived.Test.YtodkhoclbhdihaaDoorApp
namespace Go.Proofs.YtodkhoclbhdihaaDoor
open Go.RowKit

def inB (x lo hi : Int) : Bool := decide (lo ≤ x) && decide (x ≤ hi)
theorem within_any (x lo hi : Int) (w : World) : Calls Tryd.prog 81 #[.int .i64 x, .int .i64 lo, .int .i64 hi] w fun e w' => e = .returned (.bool (inB x lo hi)) ∧ w = w' := by
  by_cases h : lo ≤ x
  · have d1 : decide (lo ≤ x) = true := by simpa using h
    go_enter Tryd.func81, Tryd.ntmps81
    go_wp2
    go_ret
    exact ⟨by unfold inB; rw [d1]; simp, rfl⟩
  · have d1 : decide (lo ≤ x) = false := by simpa using h
    go_enter Tryd.func81, Tryd.ntmps81
    go_wp2
    go_ret
    exact ⟨by unfold inB; rw [d1]; simp, rfl⟩

theorem valid_eq (o : GOp) : validF o = if inB o.kind 0 2 = false then 40 else if inB o.client 1 64 = false then 41 else if inB o.seq 1 64 = false then 41 else
      if o.kind = 1 then (if inB (o.ch.toNat : Int) 32 126 = false then 42 else if inB o.pos 0 4095 = false then 43 else 0)
      else if (o.ch.toNat : Int) ≠ 0 then 42 else if o.kind = 0 then (if inB o.pos 0 0 = false then 43 else 0) else (if inB o.pos 0 4095 = false then 43 else 0) := by
  unfold validF posF inB
  simp only [Bool.and_eq_false_iff, decide_eq_false_iff_not]
  repeat' split
  all_goals first | rfl | omega | (exfalso; omega)

set_option maxHeartbeats 8000000 in
theorem valid_any (o : GOp) (w : World) : Calls Tryd.prog 80 #[opV o] w fun e w' => e = .returned (.int .i64 (validF o)) ∧ Fr None' w w' := by
  have hu := u8_lt o.ch
  have Hw := Lib.hid within_any
  have HV := Lib.hid (valid_eq o)
  unfold opV opCells
  generalize validF o = r at HV
  obtain ⟨k, p, ch, cl, sq⟩ := o
  dsimp only at *
  have e0 : IntKind.i64.wrap (ch.toNat : Int) = (ch.toNat : Int) := IntWalk.i64_in _ (by omega)
  generalize (ch.toNat : Int) = c at *
  cases h0 : inB k 0 2
  ·
    go_enter Tryd.func80, Tryd.ntmps80
    go_wp2_with (go_at_call 81; refine (Hw.out _ _ _ _).mono ?_; rintro e1 w1 ⟨rfl, rfl⟩)
    go_ret
    exact ⟨retI (by rw [HV.out]; clear HV Hw; (repeat' split) <;> first | rfl | (exfalso; simp_all; done) | (exfalso; simp_all; omega)), (Fr.refl _ _).alloc _⟩
  ·
    cases h1 : inB cl 1 64
    ·
      go_enter Tryd.func80, Tryd.ntmps80
      go_wp2_with (go_at_call 81; refine (Hw.out _ _ _ _).mono ?_; rintro e1 w1 ⟨rfl, rfl⟩)
      go_ret
      exact ⟨retI (by rw [HV.out]; clear HV Hw; (repeat' split) <;> first | rfl | (exfalso; simp_all; done) | (exfalso; simp_all; omega)), (Fr.refl _ _).alloc _⟩
    ·
      cases h2 : inB sq 1 64
      ·
        go_enter Tryd.func80, Tryd.ntmps80
        go_wp2_with (go_at_call 81; refine (Hw.out _ _ _ _).mono ?_; rintro e1 w1 ⟨rfl, rfl⟩)
        go_ret
        exact ⟨retI (by rw [HV.out]; clear HV Hw; (repeat' split) <;> first | rfl | (exfalso; simp_all; done) | (exfalso; simp_all; omega)), (Fr.refl _ _).alloc _⟩
      ·
        by_cases gk : k = 1
        ·
          have q1 : (k == 1) = true := by simpa using gk
          cases hc : inB c 32 126
          ·
            go_enter Tryd.func80, Tryd.ntmps80
            go_wp2_with (go_at_call 81; refine (Hw.out _ _ _ _).mono ?_; rintro e1 w1 ⟨rfl, rfl⟩)
            go_ret
            exact ⟨retI (by rw [HV.out]; clear HV Hw; (repeat' split) <;> first | rfl | (exfalso; simp_all; done) | (exfalso; simp_all; omega)), (Fr.refl _ _).alloc _⟩
          ·
            cases hp : inB p 0 4095
            ·
              have q0 : (k == 0) = false := by simp; omega
              go_enter Tryd.func80, Tryd.ntmps80
              go_wp2_with (go_at_call 81; refine (Hw.out _ _ _ _).mono ?_; rintro e1 w1 ⟨rfl, rfl⟩)
              go_ret
              exact ⟨retI (by rw [HV.out]; clear HV Hw; (repeat' split) <;> first | rfl | (exfalso; simp_all; done) | (exfalso; simp_all; omega)), (Fr.refl _ _).alloc _⟩
            ·
              have q0 : (k == 0) = false := by simp; omega
              go_enter Tryd.func80, Tryd.ntmps80
              go_wp2_with (go_at_call 81; refine (Hw.out _ _ _ _).mono ?_; rintro e1 w1 ⟨rfl, rfl⟩)
              go_ret
              exact ⟨retI (by rw [HV.out]; clear HV Hw; (repeat' split) <;> first | rfl | (exfalso; simp_all; done) | (exfalso; simp_all; omega)), (Fr.refl _ _).alloc _⟩
        ·
          have q1 : (k == 1) = false := by simpa using gk
          by_cases gc : c = 0
          ·
            have q2 : (c != 0) = false := by simpa using gc
            by_cases gz : k = 0
            ·
              have q0 : (k == 0) = true := by simpa using gz
              cases hp : inB p 0 0
              ·
                go_enter Tryd.func80, Tryd.ntmps80
                go_wp2_with (go_at_call 81; refine (Hw.out _ _ _ _).mono ?_; rintro e1 w1 ⟨rfl, rfl⟩)
                go_ret
                exact ⟨retI (by rw [HV.out]; clear HV Hw; (repeat' split) <;> first | rfl | (exfalso; simp_all; done) | (exfalso; simp_all; omega)), (Fr.refl _ _).alloc _⟩
              ·
                go_enter Tryd.func80, Tryd.ntmps80
                go_wp2_with (go_at_call 81; refine (Hw.out _ _ _ _).mono ?_; rintro e1 w1 ⟨rfl, rfl⟩)
                go_ret
                exact ⟨retI (by rw [HV.out]; clear HV Hw; (repeat' split) <;> first | rfl | (exfalso; simp_all; done) | (exfalso; simp_all; omega)), (Fr.refl _ _).alloc _⟩
            ·
              have q0 : (k == 0) = false := by simp; omega
              cases hp : inB p 0 4095
              ·
                go_enter Tryd.func80, Tryd.ntmps80
                go_wp2_with (go_at_call 81; refine (Hw.out _ _ _ _).mono ?_; rintro e1 w1 ⟨rfl, rfl⟩)
                go_ret
                exact ⟨retI (by rw [HV.out]; clear HV Hw; (repeat' split) <;> first | rfl | (exfalso; simp_all; done) | (exfalso; simp_all; omega)), (Fr.refl _ _).alloc _⟩
              ·
                go_enter Tryd.func80, Tryd.ntmps80
                go_wp2_with (go_at_call 81; refine (Hw.out _ _ _ _).mono ?_; rintro e1 w1 ⟨rfl, rfl⟩)
                go_ret
                exact ⟨retI (by rw [HV.out]; clear HV Hw; (repeat' split) <;> first | rfl | (exfalso; simp_all; done) | (exfalso; simp_all; omega)), (Fr.refl _ _).alloc _⟩
          ·
            have q2 : (c != 0) = true := by simpa using gc
            go_enter Tryd.func80, Tryd.ntmps80
            go_wp2_with (go_at_call 81; refine (Hw.out _ _ _ _).mono ?_; rintro e1 w1 ⟨rfl, rfl⟩)
            go_ret
            exact ⟨retI (by rw [HV.out]; clear HV Hw; (repeat' split) <;> first | rfl | (exfalso; simp_all; done) | (exfalso; simp_all; omega)), (Fr.refl _ _).alloc _⟩

theorem fits_eq (n : Int) (o : GOp) : fitsF n o = if validF o ≠ 0 then validF o else if inB n 0 4096 = false then 44 else
    if o.kind = 1 then (if n = 4096 then 44 else if n < o.pos then 43 else 0) else if o.kind = 2 then (if n ≤ o.pos then 43 else 0) else 0 := by
  unfold fitsF inB
  simp only [Bool.and_eq_false_iff, decide_eq_false_iff_not]
  repeat' split
  all_goals first | rfl | omega | (exfalso; omega)

set_option maxHeartbeats 8000000 in
theorem fits_any (n : Int) (o : GOp) (w : World) : Calls Tryd.prog 68 #[.int .i64 n, opV o] w fun e w' => e = .returned (.int .i64 (fitsF n o)) ∧ Fr None' w w' := by
  have HV := Lib.hid (fits_eq n o)
  have Hw := Lib.hid within_any
  have hv := valid_any o
  unfold opV opCells at *
  generalize fitsF n o = r at HV
  generalize validF o = r0 at *
  have Hv := Lib.hid hv
  clear hv
  have HF : Hid (∀ w2 : World, Fr None' (w.alloc (.cells #[.int .i64 o.kind, .int .i64 o.pos, .int .u8 (o.ch.toNat : Int), .int .i64 o.client, .int .i64 o.seq] 23)) w2 → Fr None' w w2) := Lib.hid fun w2 h => ((Fr.refl None' w).alloc _).trans' h
  have hcell : ∀ i, (w.alloc (.cells #[.int .i64 o.kind, .int .i64 o.pos, .int .u8 (o.ch.toNat : Int), .int .i64 o.client, .int .i64 o.seq] 23)).cell? ⟨w.heap.size, i, none⟩ = (#[.int .i64 o.kind, .int .i64 o.pos, .int .u8 (o.ch.toNat : Int), .int .i64 o.client, .int .i64 o.seq] : Array Value)[i]? := fun i => Blk.cell (Blk.new w 23 _) i
  have hlt : w.heap.size < (w.alloc (.cells #[.int .i64 o.kind, .int .i64 o.pos, .int .u8 (o.ch.toNat : Int), .int .i64 o.client, .int .i64 o.seq] 23)).heap.size := Blk.lt (Blk.new w 23 _)
  have Hcell := Lib.hid hcell
  have Hlt := Lib.hid hlt
  clear hcell hlt
  obtain ⟨k, p, ch, cl, sq⟩ := o
  dsimp only at *
  cases hn : inB n 0 4096
  · by_cases g0 : r0 = 0
    · have z0 : (r0 != 0) = false := by simpa using g0
      have G0 := Lib.hid g0
      clear g0
      go_enter Tryd.func68, Tryd.ntmps68
      go_wp2_with fail
      refine (Hv.out _).mono ?_
      rintro e1 w1 ⟨rfl, hf1⟩
      have HF1 := Lib.hid (HF.out _ hf1)
      have c0 : w1.cell? ⟨w.heap.size, 0, none⟩ = some (.int .i64 k) := ((fcell hf1).1 _ 0 Hlt.out).trans (Hcell.out 0)
      have c1 : w1.cell? ⟨w.heap.size, 1, none⟩ = some (.int .i64 p) := ((fcell hf1).1 _ 1 Hlt.out).trans (Hcell.out 1)
      clear hf1
      go_wp2_with (go_at_call 81; refine (Hw.out _ _ _ _).mono ?_; rintro e1 w1 ⟨rfl, rfl⟩)
      go_ret
      exact ⟨retI (by rw [HV.out]; have g0 := G0.out; clear HV Hw; (repeat' split) <;> first | rfl | (exfalso; simp_all; done) | omega), HF1.out⟩
    · have z0 : (r0 != 0) = true := by simpa using g0
      have G0 := Lib.hid g0
      clear g0
      go_enter Tryd.func68, Tryd.ntmps68
      go_wp2_with fail
      refine (Hv.out _).mono ?_
      rintro e1 w1 ⟨rfl, hf1⟩
      have HF1 := Lib.hid (HF.out _ hf1)
      have c0 : w1.cell? ⟨w.heap.size, 0, none⟩ = some (.int .i64 k) := ((fcell hf1).1 _ 0 Hlt.out).trans (Hcell.out 0)
      have c1 : w1.cell? ⟨w.heap.size, 1, none⟩ = some (.int .i64 p) := ((fcell hf1).1 _ 1 Hlt.out).trans (Hcell.out 1)
      clear hf1
      go_wp2_with (go_at_call 81; refine (Hw.out _ _ _ _).mono ?_; rintro e1 w1 ⟨rfl, rfl⟩)
      go_ret
      exact ⟨retI (by rw [HV.out]; have g0 := G0.out; clear HV Hw; (repeat' split) <;> first | rfl | (exfalso; simp_all; done) | omega), HF1.out⟩
  · by_cases g0 : r0 = 0
    · have z0 : (r0 != 0) = false := by simpa using g0
      by_cases g1 : k = 1
      · have z1 : (k == 1) = true := by simpa using g1
        have z4 : (k == 2) = false := by simp; omega
        by_cases g2 : n = 4096
        · have z2 : (n == 4096) = true := by simpa using g2
          have G0 := Lib.hid g0
          have G1 := Lib.hid g1
          have G2 := Lib.hid g2
          clear g0 g1 g2
          go_enter Tryd.func68, Tryd.ntmps68
          go_wp2_with fail
          refine (Hv.out _).mono ?_
          rintro e1 w1 ⟨rfl, hf1⟩
          have HF1 := Lib.hid (HF.out _ hf1)
          have c0 : w1.cell? ⟨w.heap.size, 0, none⟩ = some (.int .i64 k) := ((fcell hf1).1 _ 0 Hlt.out).trans (Hcell.out 0)
          have c1 : w1.cell? ⟨w.heap.size, 1, none⟩ = some (.int .i64 p) := ((fcell hf1).1 _ 1 Hlt.out).trans (Hcell.out 1)
          clear hf1
          go_wp2_with (go_at_call 81; refine (Hw.out _ _ _ _).mono ?_; rintro e1 w1 ⟨rfl, rfl⟩)
          go_ret
          exact ⟨retI (by rw [HV.out]; have g0 := G0.out; have g1 := G1.out; have g2 := G2.out; clear HV Hw; (repeat' split) <;> first | rfl | (exfalso; simp_all; done) | omega), HF1.out⟩
        · have z2 : (n == 4096) = false := by simpa using g2
          by_cases g3 : n < p
          · have z3 : decide (n < p) = true := by simpa using g3
            have G0 := Lib.hid g0
            have G1 := Lib.hid g1
            have G2 := Lib.hid g2
            have G3 := Lib.hid g3
            clear g0 g1 g2 g3
            go_enter Tryd.func68, Tryd.ntmps68
            go_wp2_with fail
            refine (Hv.out _).mono ?_
            rintro e1 w1 ⟨rfl, hf1⟩
            have HF1 := Lib.hid (HF.out _ hf1)
            have c0 : w1.cell? ⟨w.heap.size, 0, none⟩ = some (.int .i64 k) := ((fcell hf1).1 _ 0 Hlt.out).trans (Hcell.out 0)
            have c1 : w1.cell? ⟨w.heap.size, 1, none⟩ = some (.int .i64 p) := ((fcell hf1).1 _ 1 Hlt.out).trans (Hcell.out 1)
            clear hf1
            go_wp2_with (go_at_call 81; refine (Hw.out _ _ _ _).mono ?_; rintro e1 w1 ⟨rfl, rfl⟩)
            go_ret
            exact ⟨retI (by rw [HV.out]; have g0 := G0.out; have g1 := G1.out; have g2 := G2.out; have g3 := G3.out; clear HV Hw; (repeat' split) <;> first | rfl | (exfalso; simp_all; done) | omega), HF1.out⟩
          · have z3 : decide (n < p) = false := by simpa using g3
            have G0 := Lib.hid g0
            have G1 := Lib.hid g1
            have G2 := Lib.hid g2
            have G3 := Lib.hid g3
            clear g0 g1 g2 g3
            go_enter Tryd.func68, Tryd.ntmps68
            go_wp2_with fail
            refine (Hv.out _).mono ?_
            rintro e1 w1 ⟨rfl, hf1⟩
            have HF1 := Lib.hid (HF.out _ hf1)
            have c0 : w1.cell? ⟨w.heap.size, 0, none⟩ = some (.int .i64 k) := ((fcell hf1).1 _ 0 Hlt.out).trans (Hcell.out 0)
            have c1 : w1.cell? ⟨w.heap.size, 1, none⟩ = some (.int .i64 p) := ((fcell hf1).1 _ 1 Hlt.out).trans (Hcell.out 1)
            clear hf1
            go_wp2_with (go_at_call 81; refine (Hw.out _ _ _ _).mono ?_; rintro e1 w1 ⟨rfl, rfl⟩)
            go_ret
            exact ⟨retI (by rw [HV.out]; have g0 := G0.out; have g1 := G1.out; have g2 := G2.out; have g3 := G3.out; clear HV Hw; (repeat' split) <;> first | rfl | (exfalso; simp_all; done) | omega), HF1.out⟩
      · have z1 : (k == 1) = false := by simpa using g1
        by_cases g4 : k = 2
        · have z4 : (k == 2) = true := by simpa using g4
          by_cases g5 : n ≤ p
          · have z5 : decide (n ≤ p) = true := by simpa using g5
            have G0 := Lib.hid g0
            have G1 := Lib.hid g1
            have G4 := Lib.hid g4
            have G5 := Lib.hid g5
            clear g0 g1 g4 g5
            go_enter Tryd.func68, Tryd.ntmps68
            go_wp2_with fail
            refine (Hv.out _).mono ?_
            rintro e1 w1 ⟨rfl, hf1⟩
            have HF1 := Lib.hid (HF.out _ hf1)
            have c0 : w1.cell? ⟨w.heap.size, 0, none⟩ = some (.int .i64 k) := ((fcell hf1).1 _ 0 Hlt.out).trans (Hcell.out 0)
            have c1 : w1.cell? ⟨w.heap.size, 1, none⟩ = some (.int .i64 p) := ((fcell hf1).1 _ 1 Hlt.out).trans (Hcell.out 1)
            clear hf1
            go_wp2_with (go_at_call 81; refine (Hw.out _ _ _ _).mono ?_; rintro e1 w1 ⟨rfl, rfl⟩)
            go_ret
            exact ⟨retI (by rw [HV.out]; have g0 := G0.out; have g1 := G1.out; have g4 := G4.out; have g5 := G5.out; clear HV Hw; (repeat' split) <;> first | rfl | (exfalso; simp_all; done) | omega), HF1.out⟩
          · have z5 : decide (n ≤ p) = false := by simpa using g5
            have G0 := Lib.hid g0
            have G1 := Lib.hid g1
            have G4 := Lib.hid g4
            have G5 := Lib.hid g5
            clear g0 g1 g4 g5
            go_enter Tryd.func68, Tryd.ntmps68
            go_wp2_with fail
            refine (Hv.out _).mono ?_
            rintro e1 w1 ⟨rfl, hf1⟩
            have HF1 := Lib.hid (HF.out _ hf1)
            have c0 : w1.cell? ⟨w.heap.size, 0, none⟩ = some (.int .i64 k) := ((fcell hf1).1 _ 0 Hlt.out).trans (Hcell.out 0)
            have c1 : w1.cell? ⟨w.heap.size, 1, none⟩ = some (.int .i64 p) := ((fcell hf1).1 _ 1 Hlt.out).trans (Hcell.out 1)
            clear hf1
            go_wp2_with (go_at_call 81; refine (Hw.out _ _ _ _).mono ?_; rintro e1 w1 ⟨rfl, rfl⟩)
            go_ret
            exact ⟨retI (by rw [HV.out]; have g0 := G0.out; have g1 := G1.out; have g4 := G4.out; have g5 := G5.out; clear HV Hw; (repeat' split) <;> first | rfl | (exfalso; simp_all; done) | omega), HF1.out⟩
        · have z4 : (k == 2) = false := by simpa using g4
          have G0 := Lib.hid g0
          have G1 := Lib.hid g1
          have G4 := Lib.hid g4
          clear g0 g1 g4
          go_enter Tryd.func68, Tryd.ntmps68
          go_wp2_with fail
          refine (Hv.out _).mono ?_
          rintro e1 w1 ⟨rfl, hf1⟩
          have HF1 := Lib.hid (HF.out _ hf1)
          have c0 : w1.cell? ⟨w.heap.size, 0, none⟩ = some (.int .i64 k) := ((fcell hf1).1 _ 0 Hlt.out).trans (Hcell.out 0)
          have c1 : w1.cell? ⟨w.heap.size, 1, none⟩ = some (.int .i64 p) := ((fcell hf1).1 _ 1 Hlt.out).trans (Hcell.out 1)
          clear hf1
          go_wp2_with (go_at_call 81; refine (Hw.out _ _ _ _).mono ?_; rintro e1 w1 ⟨rfl, rfl⟩)
          go_ret
          exact ⟨retI (by rw [HV.out]; have g0 := G0.out; have g1 := G1.out; have g4 := G4.out; clear HV Hw; (repeat' split) <;> first | rfl | (exfalso; simp_all; done) | omega), HF1.out⟩
    · have z0 : (r0 != 0) = true := by simpa using g0
      have G0 := Lib.hid g0
      clear g0
      go_enter Tryd.func68, Tryd.ntmps68
      go_wp2_with fail
      refine (Hv.out _).mono ?_
      rintro e1 w1 ⟨rfl, hf1⟩
      have HF1 := Lib.hid (HF.out _ hf1)
      have c0 : w1.cell? ⟨w.heap.size, 0, none⟩ = some (.int .i64 k) := ((fcell hf1).1 _ 0 Hlt.out).trans (Hcell.out 0)
      have c1 : w1.cell? ⟨w.heap.size, 1, none⟩ = some (.int .i64 p) := ((fcell hf1).1 _ 1 Hlt.out).trans (Hcell.out 1)
      clear hf1
      go_wp2_with (go_at_call 81; refine (Hw.out _ _ _ _).mono ?_; rintro e1 w1 ⟨rfl, rfl⟩)
      go_ret
      exact ⟨retI (by rw [HV.out]; have g0 := G0.out; clear HV Hw; (repeat' split) <;> first | rfl | (exfalso; simp_all; done) | omega), HF1.out⟩
end Go.Proofs.YtodkhoclbhdihaaDoor
