/-
  Contract of a case's spoiltRecord.
-/
import Derived.Test.YtodkhoclbhdihaaGreatDoorZ4
import Derived.Test.YtodkhoclbhdihaaGreatDoorZ2
namespace Go.Proofs.YtodkhoclbhdihaaGreatDoor
open Go.RowKit


set_option maxHeartbeats 8000000 in
theorem spoilt_any (out gone : Bool) (tag pos : Int) (ch : UInt8) (seq rev way : Int) (kd ps : Int) (rc : UInt8) (cl sq : Int) (w : World) : Calls Tryz.prog 30 #[.agg #[.bool out, .bool gone, .int .i64 tag, .int .i64 pos, .int .u8 (ch.toNat : Int), .int .i64 seq, .int .i64 rev, .int .i64 way], .agg #[.int .i64 kd, .int .i64 ps, .int .u8 (rc.toNat : Int), .int .i64 cl, .int .i64 sq]] w fun e w' =>
    e = .returned (if way % 3 = 0 then .agg #[.int .i64 1, .int .i64 ps, .int .u8 (if rc = 33 then 34 else 33), .int .i64 cl, .int .i64 sq]
      else if way % 3 = 1 then .agg #[.int .i64 (if out then 1 else 2), .int .i64 ps, .int .u8 (if out then 113 else 0), .int .i64 cl, .int .i64 sq]
      else .agg #[.int .i64 (if out then 1 else 0), .int .i64 0, .int .u8 (if out then 119 else 0), .int .i64 cl, .int .i64 sq]) ∧ Fr None' w w' := by
  have Hi := Lib.hid into_gen
  generalize (ch.toNat : Int) = C0 at *
  obtain ⟨R0, hR0⟩ : ∃ R0, R0 = (rc.toNat : Int) := ⟨_, rfl⟩
  have hr33 : (R0 = 33) = (rc = 33) := by
    rw [hR0]
    apply propext
    constructor
    · intro h
      exact UInt8.toNat_inj.1 (by show rc.toNat = 33; omega)
    · rintro rfl; rfl
  rw [← hR0]
  have HR33 := Lib.hid hr33
  clear hR0 hr33
  obtain ⟨X, hX⟩ : ∃ X : World, X = ((((w.alloc (.cells #[.bool out, .bool gone, .int .i64 tag, .int .i64 pos, .int .u8 C0, .int .i64 seq, .int .i64 rev, .int .i64 way] 65)).alloc (.cells #[.int .i64 kd, .int .i64 ps, .int .u8 R0, .int .i64 cl, .int .i64 sq] 26)).alloc (.cells #[.int .i64 0, .int .i64 0, .int .u8 0, .int .i64 0, .int .i64 0] 26)).alloc (.cells #[.int .i64 kd, .int .i64 ps, .int .u8 R0, .int .i64 cl, .int .i64 sq] 26)) := ⟨_, rfl⟩
  have hF : Fr None' w X := by rw [hX]; exact ((((Fr.refl _ _).alloc _).alloc _).alloc _).alloc _
  have hC : Blk X w.heap.size 65 #[.bool out, .bool gone, .int .i64 tag, .int .i64 pos, .int .u8 C0, .int .i64 seq, .int .i64 rev, .int .i64 way] := by rw [hX]; exact (((Blk.new _ _ _).alloc _).alloc _).alloc _
  have hO : Blk X (w.heap.size + 1) 26 #[.int .i64 kd, .int .i64 ps, .int .u8 R0, .int .i64 cl, .int .i64 sq] := by
    rw [hX]
    have := Blk.new (w.alloc (.cells #[.bool out, .bool gone, .int .i64 tag, .int .i64 pos, .int .u8 C0, .int .i64 seq, .int .i64 rev, .int .i64 way] 65)) 26 #[.int .i64 kd, .int .i64 ps, .int .u8 R0, .int .i64 cl, .int .i64 sq]
    simp only [World.size_alloc] at this
    exact (this.alloc _).alloc _
  have hQ : Blk X (w.heap.size + 1 + 1) 26 #[.int .i64 0, .int .i64 0, .int .u8 0, .int .i64 0, .int .i64 0] := by
    rw [hX]
    have := Blk.new ((w.alloc (.cells #[.bool out, .bool gone, .int .i64 tag, .int .i64 pos, .int .u8 C0, .int .i64 seq, .int .i64 rev, .int .i64 way] 65)).alloc (.cells #[.int .i64 kd, .int .i64 ps, .int .u8 R0, .int .i64 cl, .int .i64 sq] 26)) 26 #[.int .i64 0, .int .i64 0, .int .u8 0, .int .i64 0, .int .i64 0]
    simp only [World.size_alloc] at this
    exact this.alloc _
  have hY : Blk X (w.heap.size + 1 + 1 + 1) 26 #[.int .i64 kd, .int .i64 ps, .int .u8 R0, .int .i64 cl, .int .i64 sq] := by
    rw [hX]
    have := Blk.new (((w.alloc (.cells #[.bool out, .bool gone, .int .i64 tag, .int .i64 pos, .int .u8 C0, .int .i64 seq, .int .i64 rev, .int .i64 way] 65)).alloc (.cells #[.int .i64 kd, .int .i64 ps, .int .u8 R0, .int .i64 cl, .int .i64 sq] 26)).alloc (.cells #[.int .i64 0, .int .i64 0, .int .u8 0, .int .i64 0, .int .i64 0] 26)) 26 #[.int .i64 kd, .int .i64 ps, .int .u8 R0, .int .i64 cl, .int .i64 sq]
    simp only [World.size_alloc] at this
    exact this
  have HX := Lib.hid hX
  clear hX
  obtain ⟨wm, hwm⟩ : ∃ wm, wm = way % 3 := ⟨_, rfl⟩
  have hwr : 0 ≤ wm ∧ wm < 3 := by omega
  rw [← hwm]
  have HWM := Lib.hid hwm
  clear hwm
  obtain ⟨RES, hRES⟩ : ∃ RES : Value, RES = (if wm = 0 then .agg #[.int .i64 1, .int .i64 ps, .int .u8 (if rc = 33 then 34 else 33), .int .i64 cl, .int .i64 sq]
      else if wm = 1 then .agg #[.int .i64 (if out then 1 else 2), .int .i64 ps, .int .u8 (if out then 113 else 0), .int .i64 cl, .int .i64 sq]
      else .agg #[.int .i64 (if out then 1 else 0), .int .i64 0, .int .u8 (if out then 119 else 0), .int .i64 cl, .int .i64 sq]) := ⟨_, rfl⟩
  rw [← hRES]
  have HRES := Lib.hid hRES
  clear hRES
  go_enter Tryz.func30, Tryz.ntmps30
  go_wp2_with fail
  refine (Hi.out _ _ (by omega) (by omega) _).mono ?_
  rintro e5 w5 ⟨rfl, h5⟩
  rw [← HWM.out]
  dsimp only
  rw [← HX.out] at h5
  subst h5
  have hsz := hY.lt
  have y1 := fun i => Blk.cell hC i
  have y2 := fun i => Blk.cell hO i
  have y3 := fun i => Blk.cell hY i
  have y4 := fun i => Blk.frozen hY i
  have y5 := fun i => Blk.cell hQ i
  have y6 := fun i => Blk.frozen hQ i
  have HF := Lib.hid hF
  have HY := Lib.hid hY
  have HQ := Lib.hid hQ
  clear hC hO hY hQ hF HX HWM Hi
  by_cases h0 : wm = 0
  · have q0 : (wm == 0) = true := by simpa using h0
    have H0 := Lib.hid h0
    clear h0
    by_cases h33 : R0 = 33
    · have q1 : (R0 == 33) = true := by simpa using h33
      have H33 := Lib.hid h33
      clear h33
      have g0 : Blk (X.setCell ⟨w.heap.size + 1 + 1 + 1, 0, none⟩ (.int .i64 1)) (w.heap.size + 1 + 1 + 1) 26 #[.int .i64 1, .int .i64 ps, .int .u8 R0, .int .i64 cl, .int .i64 sq] := HY.out.set_ 0 (.int .i64 1)
      have g1 : Blk ((X.setCell ⟨w.heap.size + 1 + 1 + 1, 0, none⟩ (.int .i64 1)).setCell ⟨w.heap.size + 1 + 1 + 1, 2, none⟩ (.int .u8 33)) (w.heap.size + 1 + 1 + 1) 26 #[.int .i64 1, .int .i64 ps, .int .u8 33, .int .i64 cl, .int .i64 sq] := g0.set_ 2 (.int .u8 33)
      have g2 : Blk (((X.setCell ⟨w.heap.size + 1 + 1 + 1, 0, none⟩ (.int .i64 1)).setCell ⟨w.heap.size + 1 + 1 + 1, 2, none⟩ (.int .u8 33)).setCell ⟨w.heap.size + 1 + 1 + 1, 2, none⟩ (.int .u8 34)) (w.heap.size + 1 + 1 + 1) 26 #[.int .i64 1, .int .i64 ps, .int .u8 34, .int .i64 cl, .int .i64 sq] := g1.set_ 2 (.int .u8 34)
      have hz := fun i => Blk.cell g2 i
      have hq : Blk (((X.setCell ⟨w.heap.size + 1 + 1 + 1, 0, none⟩ (.int .i64 1)).setCell ⟨w.heap.size + 1 + 1 + 1, 2, none⟩ (.int .u8 33)).setCell ⟨w.heap.size + 1 + 1 + 1, 2, none⟩ (.int .u8 34)) (w.heap.size + 1 + 1) 26 #[.int .i64 0, .int .i64 0, .int .u8 0, .int .i64 0, .int .i64 0] := (((HQ.out.far (p := ⟨w.heap.size + 1 + 1 + 1, 0, none⟩) (by dsimp only; omega) (.int .i64 1)).far (p := ⟨w.heap.size + 1 + 1 + 1, 2, none⟩) (by dsimp only; omega) (.int .u8 33)).far (p := ⟨w.heap.size + 1 + 1 + 1, 2, none⟩) (by dsimp only; omega) (.int .u8 34))
      have hf : Fr None' w (((X.setCell ⟨w.heap.size + 1 + 1 + 1, 0, none⟩ (.int .i64 1)).setCell ⟨w.heap.size + 1 + 1 + 1, 2, none⟩ (.int .u8 33)).setCell ⟨w.heap.size + 1 + 1 + 1, 2, none⟩ (.int .u8 34)) := (((HF.out.setCell (p := ⟨w.heap.size + 1 + 1 + 1, 0, none⟩) (.inl (by dsimp only; omega)) (.int .i64 1)).setCell (p := ⟨w.heap.size + 1 + 1 + 1, 2, none⟩) (.inl (by dsimp only; omega)) (.int .u8 33)).setCell (p := ⟨w.heap.size + 1 + 1 + 1, 2, none⟩) (.inl (by dsimp only; omega)) (.int .u8 34))
      have HQ1 := Lib.hid hq
      have HF1 := Lib.hid hf
      clear hq hf g0 g1 g2
      go_wp2
      clear hz
      have hq := HQ1.out
      have hf := HF1.out
      clear HQ1 HF1
      generalize (((X.setCell ⟨w.heap.size + 1 + 1 + 1, 0, none⟩ (.int .i64 1)).setCell ⟨w.heap.size + 1 + 1 + 1, 2, none⟩ (.int .u8 33)).setCell ⟨w.heap.size + 1 + 1 + 1, 2, none⟩ (.int .u8 34)) = Z at *
      have hq2 : Blk (((((Z.setCell ⟨w.heap.size + 1 + 1, 0, none⟩ (.int .i64 1)).setCell ⟨w.heap.size + 1 + 1, 1, none⟩ (.int .i64 ps)).setCell ⟨w.heap.size + 1 + 1, 2, none⟩ (.int .u8 34)).setCell ⟨w.heap.size + 1 + 1, 3, none⟩ (.int .i64 cl)).setCell ⟨w.heap.size + 1 + 1, 4, none⟩ (.int .i64 sq)) (w.heap.size + 1 + 1) 26 #[.int .i64 1, .int .i64 ps, .int .u8 34, .int .i64 cl, .int .i64 sq] := hq.fill5 (.int .i64 1) (.int .i64 ps) (.int .u8 34) (.int .i64 cl) (.int .i64 sq)
      have hf2 : Fr None' w (((((Z.setCell ⟨w.heap.size + 1 + 1, 0, none⟩ (.int .i64 1)).setCell ⟨w.heap.size + 1 + 1, 1, none⟩ (.int .i64 ps)).setCell ⟨w.heap.size + 1 + 1, 2, none⟩ (.int .u8 34)).setCell ⟨w.heap.size + 1 + 1, 3, none⟩ (.int .i64 cl)).setCell ⟨w.heap.size + 1 + 1, 4, none⟩ (.int .i64 sq)) := (((((hf.setCell (p := ⟨w.heap.size + 1 + 1, 0, none⟩) (.inl (by dsimp only; omega)) (.int .i64 1)).setCell (p := ⟨w.heap.size + 1 + 1, 1, none⟩) (.inl (by dsimp only; omega)) (.int .i64 ps)).setCell (p := ⟨w.heap.size + 1 + 1, 2, none⟩) (.inl (by dsimp only; omega)) (.int .u8 34)).setCell (p := ⟨w.heap.size + 1 + 1, 3, none⟩) (.inl (by dsimp only; omega)) (.int .i64 cl)).setCell (p := ⟨w.heap.size + 1 + 1, 4, none⟩) (.inl (by dsimp only; omega)) (.int .i64 sq))
      generalize (((((Z.setCell ⟨w.heap.size + 1 + 1, 0, none⟩ (.int .i64 1)).setCell ⟨w.heap.size + 1 + 1, 1, none⟩ (.int .i64 ps)).setCell ⟨w.heap.size + 1 + 1, 2, none⟩ (.int .u8 34)).setCell ⟨w.heap.size + 1 + 1, 3, none⟩ (.int .i64 cl)).setCell ⟨w.heap.size + 1 + 1, 4, none⟩ (.int .i64 sq)) = Z2 at *
      have yz := fun i => Blk.cell hq2 i
      exact bodyPost_ret (v := .agg #[.int .i64 1, .int .i64 ps, .int .u8 34, .int .i64 cl, .int .i64 sq]) (by simp [results, Tryz.results30, go_sem, yz]) rfl ⟨by rw [HRES.out]; simp [H0.out, ← HR33.out, H33.out], hf2⟩
    · have q1 : (R0 == 33) = false := by simpa using h33
      have H33 := Lib.hid (show ¬ R0 = 33 from h33)
      clear h33
      have g0 : Blk (X.setCell ⟨w.heap.size + 1 + 1 + 1, 0, none⟩ (.int .i64 1)) (w.heap.size + 1 + 1 + 1) 26 #[.int .i64 1, .int .i64 ps, .int .u8 R0, .int .i64 cl, .int .i64 sq] := HY.out.set_ 0 (.int .i64 1)
      have g1 : Blk ((X.setCell ⟨w.heap.size + 1 + 1 + 1, 0, none⟩ (.int .i64 1)).setCell ⟨w.heap.size + 1 + 1 + 1, 2, none⟩ (.int .u8 33)) (w.heap.size + 1 + 1 + 1) 26 #[.int .i64 1, .int .i64 ps, .int .u8 33, .int .i64 cl, .int .i64 sq] := g0.set_ 2 (.int .u8 33)
      have hz := fun i => Blk.cell g1 i
      have hq : Blk ((X.setCell ⟨w.heap.size + 1 + 1 + 1, 0, none⟩ (.int .i64 1)).setCell ⟨w.heap.size + 1 + 1 + 1, 2, none⟩ (.int .u8 33)) (w.heap.size + 1 + 1) 26 #[.int .i64 0, .int .i64 0, .int .u8 0, .int .i64 0, .int .i64 0] := ((HQ.out.far (p := ⟨w.heap.size + 1 + 1 + 1, 0, none⟩) (by dsimp only; omega) (.int .i64 1)).far (p := ⟨w.heap.size + 1 + 1 + 1, 2, none⟩) (by dsimp only; omega) (.int .u8 33))
      have hf : Fr None' w ((X.setCell ⟨w.heap.size + 1 + 1 + 1, 0, none⟩ (.int .i64 1)).setCell ⟨w.heap.size + 1 + 1 + 1, 2, none⟩ (.int .u8 33)) := ((HF.out.setCell (p := ⟨w.heap.size + 1 + 1 + 1, 0, none⟩) (.inl (by dsimp only; omega)) (.int .i64 1)).setCell (p := ⟨w.heap.size + 1 + 1 + 1, 2, none⟩) (.inl (by dsimp only; omega)) (.int .u8 33))
      have HQ1 := Lib.hid hq
      have HF1 := Lib.hid hf
      clear hq hf g0 g1
      go_wp2
      clear hz
      have hq := HQ1.out
      have hf := HF1.out
      clear HQ1 HF1
      generalize ((X.setCell ⟨w.heap.size + 1 + 1 + 1, 0, none⟩ (.int .i64 1)).setCell ⟨w.heap.size + 1 + 1 + 1, 2, none⟩ (.int .u8 33)) = Z at *
      have hq2 : Blk (((((Z.setCell ⟨w.heap.size + 1 + 1, 0, none⟩ (.int .i64 1)).setCell ⟨w.heap.size + 1 + 1, 1, none⟩ (.int .i64 ps)).setCell ⟨w.heap.size + 1 + 1, 2, none⟩ (.int .u8 33)).setCell ⟨w.heap.size + 1 + 1, 3, none⟩ (.int .i64 cl)).setCell ⟨w.heap.size + 1 + 1, 4, none⟩ (.int .i64 sq)) (w.heap.size + 1 + 1) 26 #[.int .i64 1, .int .i64 ps, .int .u8 33, .int .i64 cl, .int .i64 sq] := hq.fill5 (.int .i64 1) (.int .i64 ps) (.int .u8 33) (.int .i64 cl) (.int .i64 sq)
      have hf2 : Fr None' w (((((Z.setCell ⟨w.heap.size + 1 + 1, 0, none⟩ (.int .i64 1)).setCell ⟨w.heap.size + 1 + 1, 1, none⟩ (.int .i64 ps)).setCell ⟨w.heap.size + 1 + 1, 2, none⟩ (.int .u8 33)).setCell ⟨w.heap.size + 1 + 1, 3, none⟩ (.int .i64 cl)).setCell ⟨w.heap.size + 1 + 1, 4, none⟩ (.int .i64 sq)) := (((((hf.setCell (p := ⟨w.heap.size + 1 + 1, 0, none⟩) (.inl (by dsimp only; omega)) (.int .i64 1)).setCell (p := ⟨w.heap.size + 1 + 1, 1, none⟩) (.inl (by dsimp only; omega)) (.int .i64 ps)).setCell (p := ⟨w.heap.size + 1 + 1, 2, none⟩) (.inl (by dsimp only; omega)) (.int .u8 33)).setCell (p := ⟨w.heap.size + 1 + 1, 3, none⟩) (.inl (by dsimp only; omega)) (.int .i64 cl)).setCell (p := ⟨w.heap.size + 1 + 1, 4, none⟩) (.inl (by dsimp only; omega)) (.int .i64 sq))
      generalize (((((Z.setCell ⟨w.heap.size + 1 + 1, 0, none⟩ (.int .i64 1)).setCell ⟨w.heap.size + 1 + 1, 1, none⟩ (.int .i64 ps)).setCell ⟨w.heap.size + 1 + 1, 2, none⟩ (.int .u8 33)).setCell ⟨w.heap.size + 1 + 1, 3, none⟩ (.int .i64 cl)).setCell ⟨w.heap.size + 1 + 1, 4, none⟩ (.int .i64 sq)) = Z2 at *
      have yz := fun i => Blk.cell hq2 i
      exact bodyPost_ret (v := .agg #[.int .i64 1, .int .i64 ps, .int .u8 33, .int .i64 cl, .int .i64 sq]) (by simp [results, Tryz.results30, go_sem, yz]) rfl ⟨by rw [HRES.out]; simp [H0.out, ← HR33.out, H33.out], hf2⟩
  · have q0 : (wm == 0) = false := by simpa using h0
    have H0 := Lib.hid (show ¬ wm = 0 from h0)
    by_cases h1 : wm = 1
    · have q1 : (wm == 1) = true := by simpa using h1
      have H1 := Lib.hid h1
      clear h0 h1 hwr
      cases out
      case false =>
        have g0 : Blk (X.setCell ⟨w.heap.size + 1 + 1 + 1, 0, none⟩ (.int .i64 2)) (w.heap.size + 1 + 1 + 1) 26 #[.int .i64 2, .int .i64 ps, .int .u8 R0, .int .i64 cl, .int .i64 sq] := HY.out.set_ 0 (.int .i64 2)
        have g1 : Blk ((X.setCell ⟨w.heap.size + 1 + 1 + 1, 0, none⟩ (.int .i64 2)).setCell ⟨w.heap.size + 1 + 1 + 1, 2, none⟩ (.int .u8 0)) (w.heap.size + 1 + 1 + 1) 26 #[.int .i64 2, .int .i64 ps, .int .u8 0, .int .i64 cl, .int .i64 sq] := g0.set_ 2 (.int .u8 0)
        have hz := fun i => Blk.cell g1 i
        have hq : Blk ((X.setCell ⟨w.heap.size + 1 + 1 + 1, 0, none⟩ (.int .i64 2)).setCell ⟨w.heap.size + 1 + 1 + 1, 2, none⟩ (.int .u8 0)) (w.heap.size + 1 + 1) 26 #[.int .i64 0, .int .i64 0, .int .u8 0, .int .i64 0, .int .i64 0] := ((HQ.out.far (p := ⟨w.heap.size + 1 + 1 + 1, 0, none⟩) (by dsimp only; omega) (.int .i64 2)).far (p := ⟨w.heap.size + 1 + 1 + 1, 2, none⟩) (by dsimp only; omega) (.int .u8 0))
        have hf : Fr None' w ((X.setCell ⟨w.heap.size + 1 + 1 + 1, 0, none⟩ (.int .i64 2)).setCell ⟨w.heap.size + 1 + 1 + 1, 2, none⟩ (.int .u8 0)) := ((HF.out.setCell (p := ⟨w.heap.size + 1 + 1 + 1, 0, none⟩) (.inl (by dsimp only; omega)) (.int .i64 2)).setCell (p := ⟨w.heap.size + 1 + 1 + 1, 2, none⟩) (.inl (by dsimp only; omega)) (.int .u8 0))
        have HQ1 := Lib.hid hq
        have HF1 := Lib.hid hf
        clear hq hf g0 g1
        go_wp2
        clear hz
        have hq := HQ1.out
        have hf := HF1.out
        clear HQ1 HF1
        generalize ((X.setCell ⟨w.heap.size + 1 + 1 + 1, 0, none⟩ (.int .i64 2)).setCell ⟨w.heap.size + 1 + 1 + 1, 2, none⟩ (.int .u8 0)) = Z at *
        have hq2 : Blk (((((Z.setCell ⟨w.heap.size + 1 + 1, 0, none⟩ (.int .i64 2)).setCell ⟨w.heap.size + 1 + 1, 1, none⟩ (.int .i64 ps)).setCell ⟨w.heap.size + 1 + 1, 2, none⟩ (.int .u8 0)).setCell ⟨w.heap.size + 1 + 1, 3, none⟩ (.int .i64 cl)).setCell ⟨w.heap.size + 1 + 1, 4, none⟩ (.int .i64 sq)) (w.heap.size + 1 + 1) 26 #[.int .i64 2, .int .i64 ps, .int .u8 0, .int .i64 cl, .int .i64 sq] := hq.fill5 (.int .i64 2) (.int .i64 ps) (.int .u8 0) (.int .i64 cl) (.int .i64 sq)
        have hf2 : Fr None' w (((((Z.setCell ⟨w.heap.size + 1 + 1, 0, none⟩ (.int .i64 2)).setCell ⟨w.heap.size + 1 + 1, 1, none⟩ (.int .i64 ps)).setCell ⟨w.heap.size + 1 + 1, 2, none⟩ (.int .u8 0)).setCell ⟨w.heap.size + 1 + 1, 3, none⟩ (.int .i64 cl)).setCell ⟨w.heap.size + 1 + 1, 4, none⟩ (.int .i64 sq)) := (((((hf.setCell (p := ⟨w.heap.size + 1 + 1, 0, none⟩) (.inl (by dsimp only; omega)) (.int .i64 2)).setCell (p := ⟨w.heap.size + 1 + 1, 1, none⟩) (.inl (by dsimp only; omega)) (.int .i64 ps)).setCell (p := ⟨w.heap.size + 1 + 1, 2, none⟩) (.inl (by dsimp only; omega)) (.int .u8 0)).setCell (p := ⟨w.heap.size + 1 + 1, 3, none⟩) (.inl (by dsimp only; omega)) (.int .i64 cl)).setCell (p := ⟨w.heap.size + 1 + 1, 4, none⟩) (.inl (by dsimp only; omega)) (.int .i64 sq))
        generalize (((((Z.setCell ⟨w.heap.size + 1 + 1, 0, none⟩ (.int .i64 2)).setCell ⟨w.heap.size + 1 + 1, 1, none⟩ (.int .i64 ps)).setCell ⟨w.heap.size + 1 + 1, 2, none⟩ (.int .u8 0)).setCell ⟨w.heap.size + 1 + 1, 3, none⟩ (.int .i64 cl)).setCell ⟨w.heap.size + 1 + 1, 4, none⟩ (.int .i64 sq)) = Z2 at *
        have yz := fun i => Blk.cell hq2 i
        exact bodyPost_ret (v := .agg #[.int .i64 2, .int .i64 ps, .int .u8 0, .int .i64 cl, .int .i64 sq]) (by simp [results, Tryz.results30, go_sem, yz]) rfl ⟨by rw [HRES.out]; simp [H1.out], hf2⟩
      case true =>
        have g0 : Blk (X.setCell ⟨w.heap.size + 1 + 1 + 1, 0, none⟩ (.int .i64 2)) (w.heap.size + 1 + 1 + 1) 26 #[.int .i64 2, .int .i64 ps, .int .u8 R0, .int .i64 cl, .int .i64 sq] := HY.out.set_ 0 (.int .i64 2)
        have g1 : Blk ((X.setCell ⟨w.heap.size + 1 + 1 + 1, 0, none⟩ (.int .i64 2)).setCell ⟨w.heap.size + 1 + 1 + 1, 2, none⟩ (.int .u8 0)) (w.heap.size + 1 + 1 + 1) 26 #[.int .i64 2, .int .i64 ps, .int .u8 0, .int .i64 cl, .int .i64 sq] := g0.set_ 2 (.int .u8 0)
        have g2 : Blk (((X.setCell ⟨w.heap.size + 1 + 1 + 1, 0, none⟩ (.int .i64 2)).setCell ⟨w.heap.size + 1 + 1 + 1, 2, none⟩ (.int .u8 0)).setCell ⟨w.heap.size + 1 + 1 + 1, 0, none⟩ (.int .i64 1)) (w.heap.size + 1 + 1 + 1) 26 #[.int .i64 1, .int .i64 ps, .int .u8 0, .int .i64 cl, .int .i64 sq] := g1.set_ 0 (.int .i64 1)
        have g3 : Blk ((((X.setCell ⟨w.heap.size + 1 + 1 + 1, 0, none⟩ (.int .i64 2)).setCell ⟨w.heap.size + 1 + 1 + 1, 2, none⟩ (.int .u8 0)).setCell ⟨w.heap.size + 1 + 1 + 1, 0, none⟩ (.int .i64 1)).setCell ⟨w.heap.size + 1 + 1 + 1, 2, none⟩ (.int .u8 113)) (w.heap.size + 1 + 1 + 1) 26 #[.int .i64 1, .int .i64 ps, .int .u8 113, .int .i64 cl, .int .i64 sq] := g2.set_ 2 (.int .u8 113)
        have hz := fun i => Blk.cell g3 i
        have hq : Blk ((((X.setCell ⟨w.heap.size + 1 + 1 + 1, 0, none⟩ (.int .i64 2)).setCell ⟨w.heap.size + 1 + 1 + 1, 2, none⟩ (.int .u8 0)).setCell ⟨w.heap.size + 1 + 1 + 1, 0, none⟩ (.int .i64 1)).setCell ⟨w.heap.size + 1 + 1 + 1, 2, none⟩ (.int .u8 113)) (w.heap.size + 1 + 1) 26 #[.int .i64 0, .int .i64 0, .int .u8 0, .int .i64 0, .int .i64 0] := ((((HQ.out.far (p := ⟨w.heap.size + 1 + 1 + 1, 0, none⟩) (by dsimp only; omega) (.int .i64 2)).far (p := ⟨w.heap.size + 1 + 1 + 1, 2, none⟩) (by dsimp only; omega) (.int .u8 0)).far (p := ⟨w.heap.size + 1 + 1 + 1, 0, none⟩) (by dsimp only; omega) (.int .i64 1)).far (p := ⟨w.heap.size + 1 + 1 + 1, 2, none⟩) (by dsimp only; omega) (.int .u8 113))
        have hf : Fr None' w ((((X.setCell ⟨w.heap.size + 1 + 1 + 1, 0, none⟩ (.int .i64 2)).setCell ⟨w.heap.size + 1 + 1 + 1, 2, none⟩ (.int .u8 0)).setCell ⟨w.heap.size + 1 + 1 + 1, 0, none⟩ (.int .i64 1)).setCell ⟨w.heap.size + 1 + 1 + 1, 2, none⟩ (.int .u8 113)) := ((((HF.out.setCell (p := ⟨w.heap.size + 1 + 1 + 1, 0, none⟩) (.inl (by dsimp only; omega)) (.int .i64 2)).setCell (p := ⟨w.heap.size + 1 + 1 + 1, 2, none⟩) (.inl (by dsimp only; omega)) (.int .u8 0)).setCell (p := ⟨w.heap.size + 1 + 1 + 1, 0, none⟩) (.inl (by dsimp only; omega)) (.int .i64 1)).setCell (p := ⟨w.heap.size + 1 + 1 + 1, 2, none⟩) (.inl (by dsimp only; omega)) (.int .u8 113))
        have HQ1 := Lib.hid hq
        have HF1 := Lib.hid hf
        clear hq hf g0 g1 g2 g3
        go_wp2
        clear hz
        have hq := HQ1.out
        have hf := HF1.out
        clear HQ1 HF1
        generalize ((((X.setCell ⟨w.heap.size + 1 + 1 + 1, 0, none⟩ (.int .i64 2)).setCell ⟨w.heap.size + 1 + 1 + 1, 2, none⟩ (.int .u8 0)).setCell ⟨w.heap.size + 1 + 1 + 1, 0, none⟩ (.int .i64 1)).setCell ⟨w.heap.size + 1 + 1 + 1, 2, none⟩ (.int .u8 113)) = Z at *
        have hq2 : Blk (((((Z.setCell ⟨w.heap.size + 1 + 1, 0, none⟩ (.int .i64 1)).setCell ⟨w.heap.size + 1 + 1, 1, none⟩ (.int .i64 ps)).setCell ⟨w.heap.size + 1 + 1, 2, none⟩ (.int .u8 113)).setCell ⟨w.heap.size + 1 + 1, 3, none⟩ (.int .i64 cl)).setCell ⟨w.heap.size + 1 + 1, 4, none⟩ (.int .i64 sq)) (w.heap.size + 1 + 1) 26 #[.int .i64 1, .int .i64 ps, .int .u8 113, .int .i64 cl, .int .i64 sq] := hq.fill5 (.int .i64 1) (.int .i64 ps) (.int .u8 113) (.int .i64 cl) (.int .i64 sq)
        have hf2 : Fr None' w (((((Z.setCell ⟨w.heap.size + 1 + 1, 0, none⟩ (.int .i64 1)).setCell ⟨w.heap.size + 1 + 1, 1, none⟩ (.int .i64 ps)).setCell ⟨w.heap.size + 1 + 1, 2, none⟩ (.int .u8 113)).setCell ⟨w.heap.size + 1 + 1, 3, none⟩ (.int .i64 cl)).setCell ⟨w.heap.size + 1 + 1, 4, none⟩ (.int .i64 sq)) := (((((hf.setCell (p := ⟨w.heap.size + 1 + 1, 0, none⟩) (.inl (by dsimp only; omega)) (.int .i64 1)).setCell (p := ⟨w.heap.size + 1 + 1, 1, none⟩) (.inl (by dsimp only; omega)) (.int .i64 ps)).setCell (p := ⟨w.heap.size + 1 + 1, 2, none⟩) (.inl (by dsimp only; omega)) (.int .u8 113)).setCell (p := ⟨w.heap.size + 1 + 1, 3, none⟩) (.inl (by dsimp only; omega)) (.int .i64 cl)).setCell (p := ⟨w.heap.size + 1 + 1, 4, none⟩) (.inl (by dsimp only; omega)) (.int .i64 sq))
        generalize (((((Z.setCell ⟨w.heap.size + 1 + 1, 0, none⟩ (.int .i64 1)).setCell ⟨w.heap.size + 1 + 1, 1, none⟩ (.int .i64 ps)).setCell ⟨w.heap.size + 1 + 1, 2, none⟩ (.int .u8 113)).setCell ⟨w.heap.size + 1 + 1, 3, none⟩ (.int .i64 cl)).setCell ⟨w.heap.size + 1 + 1, 4, none⟩ (.int .i64 sq)) = Z2 at *
        have yz := fun i => Blk.cell hq2 i
        exact bodyPost_ret (v := .agg #[.int .i64 1, .int .i64 ps, .int .u8 113, .int .i64 cl, .int .i64 sq]) (by simp [results, Tryz.results30, go_sem, yz]) rfl ⟨by rw [HRES.out]; simp [H1.out], hf2⟩
    · have q1 : (wm == 1) = false := by simpa using h1
      have H1 := Lib.hid (show ¬ wm = 1 from h1)
      clear h0 h1 hwr
      cases out
      case false =>
        have g0 : Blk (X.setCell ⟨w.heap.size + 1 + 1 + 1, 0, none⟩ (.int .i64 0)) (w.heap.size + 1 + 1 + 1) 26 #[.int .i64 0, .int .i64 ps, .int .u8 R0, .int .i64 cl, .int .i64 sq] := HY.out.set_ 0 (.int .i64 0)
        have g1 : Blk ((X.setCell ⟨w.heap.size + 1 + 1 + 1, 0, none⟩ (.int .i64 0)).setCell ⟨w.heap.size + 1 + 1 + 1, 1, none⟩ (.int .i64 0)) (w.heap.size + 1 + 1 + 1) 26 #[.int .i64 0, .int .i64 0, .int .u8 R0, .int .i64 cl, .int .i64 sq] := g0.set_ 1 (.int .i64 0)
        have g2 : Blk (((X.setCell ⟨w.heap.size + 1 + 1 + 1, 0, none⟩ (.int .i64 0)).setCell ⟨w.heap.size + 1 + 1 + 1, 1, none⟩ (.int .i64 0)).setCell ⟨w.heap.size + 1 + 1 + 1, 2, none⟩ (.int .u8 0)) (w.heap.size + 1 + 1 + 1) 26 #[.int .i64 0, .int .i64 0, .int .u8 0, .int .i64 cl, .int .i64 sq] := g1.set_ 2 (.int .u8 0)
        have g3 : Blk ((((X.setCell ⟨w.heap.size + 1 + 1 + 1, 0, none⟩ (.int .i64 0)).setCell ⟨w.heap.size + 1 + 1 + 1, 1, none⟩ (.int .i64 0)).setCell ⟨w.heap.size + 1 + 1 + 1, 2, none⟩ (.int .u8 0)).setCell ⟨w.heap.size + 1 + 1 + 1, 3, none⟩ (.int .i64 cl)) (w.heap.size + 1 + 1 + 1) 26 #[.int .i64 0, .int .i64 0, .int .u8 0, .int .i64 cl, .int .i64 sq] := g2.set_ 3 (.int .i64 cl)
        have g4 : Blk (((((X.setCell ⟨w.heap.size + 1 + 1 + 1, 0, none⟩ (.int .i64 0)).setCell ⟨w.heap.size + 1 + 1 + 1, 1, none⟩ (.int .i64 0)).setCell ⟨w.heap.size + 1 + 1 + 1, 2, none⟩ (.int .u8 0)).setCell ⟨w.heap.size + 1 + 1 + 1, 3, none⟩ (.int .i64 cl)).setCell ⟨w.heap.size + 1 + 1 + 1, 4, none⟩ (.int .i64 sq)) (w.heap.size + 1 + 1 + 1) 26 #[.int .i64 0, .int .i64 0, .int .u8 0, .int .i64 cl, .int .i64 sq] := g3.set_ 4 (.int .i64 sq)
        have hz := fun i => Blk.cell g4 i
        have hq : Blk (((((X.setCell ⟨w.heap.size + 1 + 1 + 1, 0, none⟩ (.int .i64 0)).setCell ⟨w.heap.size + 1 + 1 + 1, 1, none⟩ (.int .i64 0)).setCell ⟨w.heap.size + 1 + 1 + 1, 2, none⟩ (.int .u8 0)).setCell ⟨w.heap.size + 1 + 1 + 1, 3, none⟩ (.int .i64 cl)).setCell ⟨w.heap.size + 1 + 1 + 1, 4, none⟩ (.int .i64 sq)) (w.heap.size + 1 + 1) 26 #[.int .i64 0, .int .i64 0, .int .u8 0, .int .i64 0, .int .i64 0] := (((((HQ.out.far (p := ⟨w.heap.size + 1 + 1 + 1, 0, none⟩) (by dsimp only; omega) (.int .i64 0)).far (p := ⟨w.heap.size + 1 + 1 + 1, 1, none⟩) (by dsimp only; omega) (.int .i64 0)).far (p := ⟨w.heap.size + 1 + 1 + 1, 2, none⟩) (by dsimp only; omega) (.int .u8 0)).far (p := ⟨w.heap.size + 1 + 1 + 1, 3, none⟩) (by dsimp only; omega) (.int .i64 cl)).far (p := ⟨w.heap.size + 1 + 1 + 1, 4, none⟩) (by dsimp only; omega) (.int .i64 sq))
        have hf : Fr None' w (((((X.setCell ⟨w.heap.size + 1 + 1 + 1, 0, none⟩ (.int .i64 0)).setCell ⟨w.heap.size + 1 + 1 + 1, 1, none⟩ (.int .i64 0)).setCell ⟨w.heap.size + 1 + 1 + 1, 2, none⟩ (.int .u8 0)).setCell ⟨w.heap.size + 1 + 1 + 1, 3, none⟩ (.int .i64 cl)).setCell ⟨w.heap.size + 1 + 1 + 1, 4, none⟩ (.int .i64 sq)) := (((((HF.out.setCell (p := ⟨w.heap.size + 1 + 1 + 1, 0, none⟩) (.inl (by dsimp only; omega)) (.int .i64 0)).setCell (p := ⟨w.heap.size + 1 + 1 + 1, 1, none⟩) (.inl (by dsimp only; omega)) (.int .i64 0)).setCell (p := ⟨w.heap.size + 1 + 1 + 1, 2, none⟩) (.inl (by dsimp only; omega)) (.int .u8 0)).setCell (p := ⟨w.heap.size + 1 + 1 + 1, 3, none⟩) (.inl (by dsimp only; omega)) (.int .i64 cl)).setCell (p := ⟨w.heap.size + 1 + 1 + 1, 4, none⟩) (.inl (by dsimp only; omega)) (.int .i64 sq))
        have HQ1 := Lib.hid hq
        have HF1 := Lib.hid hf
        clear hq hf g0 g1 g2 g3 g4
        go_wp2
        clear hz
        have hq := HQ1.out
        have hf := HF1.out
        clear HQ1 HF1
        generalize (((((X.setCell ⟨w.heap.size + 1 + 1 + 1, 0, none⟩ (.int .i64 0)).setCell ⟨w.heap.size + 1 + 1 + 1, 1, none⟩ (.int .i64 0)).setCell ⟨w.heap.size + 1 + 1 + 1, 2, none⟩ (.int .u8 0)).setCell ⟨w.heap.size + 1 + 1 + 1, 3, none⟩ (.int .i64 cl)).setCell ⟨w.heap.size + 1 + 1 + 1, 4, none⟩ (.int .i64 sq)) = Z at *
        have hq2 : Blk (((((Z.setCell ⟨w.heap.size + 1 + 1, 0, none⟩ (.int .i64 0)).setCell ⟨w.heap.size + 1 + 1, 1, none⟩ (.int .i64 0)).setCell ⟨w.heap.size + 1 + 1, 2, none⟩ (.int .u8 0)).setCell ⟨w.heap.size + 1 + 1, 3, none⟩ (.int .i64 cl)).setCell ⟨w.heap.size + 1 + 1, 4, none⟩ (.int .i64 sq)) (w.heap.size + 1 + 1) 26 #[.int .i64 0, .int .i64 0, .int .u8 0, .int .i64 cl, .int .i64 sq] := hq.fill5 (.int .i64 0) (.int .i64 0) (.int .u8 0) (.int .i64 cl) (.int .i64 sq)
        have hf2 : Fr None' w (((((Z.setCell ⟨w.heap.size + 1 + 1, 0, none⟩ (.int .i64 0)).setCell ⟨w.heap.size + 1 + 1, 1, none⟩ (.int .i64 0)).setCell ⟨w.heap.size + 1 + 1, 2, none⟩ (.int .u8 0)).setCell ⟨w.heap.size + 1 + 1, 3, none⟩ (.int .i64 cl)).setCell ⟨w.heap.size + 1 + 1, 4, none⟩ (.int .i64 sq)) := (((((hf.setCell (p := ⟨w.heap.size + 1 + 1, 0, none⟩) (.inl (by dsimp only; omega)) (.int .i64 0)).setCell (p := ⟨w.heap.size + 1 + 1, 1, none⟩) (.inl (by dsimp only; omega)) (.int .i64 0)).setCell (p := ⟨w.heap.size + 1 + 1, 2, none⟩) (.inl (by dsimp only; omega)) (.int .u8 0)).setCell (p := ⟨w.heap.size + 1 + 1, 3, none⟩) (.inl (by dsimp only; omega)) (.int .i64 cl)).setCell (p := ⟨w.heap.size + 1 + 1, 4, none⟩) (.inl (by dsimp only; omega)) (.int .i64 sq))
        generalize (((((Z.setCell ⟨w.heap.size + 1 + 1, 0, none⟩ (.int .i64 0)).setCell ⟨w.heap.size + 1 + 1, 1, none⟩ (.int .i64 0)).setCell ⟨w.heap.size + 1 + 1, 2, none⟩ (.int .u8 0)).setCell ⟨w.heap.size + 1 + 1, 3, none⟩ (.int .i64 cl)).setCell ⟨w.heap.size + 1 + 1, 4, none⟩ (.int .i64 sq)) = Z2 at *
        have yz := fun i => Blk.cell hq2 i
        exact bodyPost_ret (v := .agg #[.int .i64 0, .int .i64 0, .int .u8 0, .int .i64 cl, .int .i64 sq]) (by simp [results, Tryz.results30, go_sem, yz]) rfl ⟨by rw [HRES.out]; simp [H0.out, H1.out], hf2⟩
      case true =>
        have g0 : Blk (X.setCell ⟨w.heap.size + 1 + 1 + 1, 0, none⟩ (.int .i64 0)) (w.heap.size + 1 + 1 + 1) 26 #[.int .i64 0, .int .i64 ps, .int .u8 R0, .int .i64 cl, .int .i64 sq] := HY.out.set_ 0 (.int .i64 0)
        have g1 : Blk ((X.setCell ⟨w.heap.size + 1 + 1 + 1, 0, none⟩ (.int .i64 0)).setCell ⟨w.heap.size + 1 + 1 + 1, 1, none⟩ (.int .i64 0)) (w.heap.size + 1 + 1 + 1) 26 #[.int .i64 0, .int .i64 0, .int .u8 R0, .int .i64 cl, .int .i64 sq] := g0.set_ 1 (.int .i64 0)
        have g2 : Blk (((X.setCell ⟨w.heap.size + 1 + 1 + 1, 0, none⟩ (.int .i64 0)).setCell ⟨w.heap.size + 1 + 1 + 1, 1, none⟩ (.int .i64 0)).setCell ⟨w.heap.size + 1 + 1 + 1, 2, none⟩ (.int .u8 0)) (w.heap.size + 1 + 1 + 1) 26 #[.int .i64 0, .int .i64 0, .int .u8 0, .int .i64 cl, .int .i64 sq] := g1.set_ 2 (.int .u8 0)
        have g3 : Blk ((((X.setCell ⟨w.heap.size + 1 + 1 + 1, 0, none⟩ (.int .i64 0)).setCell ⟨w.heap.size + 1 + 1 + 1, 1, none⟩ (.int .i64 0)).setCell ⟨w.heap.size + 1 + 1 + 1, 2, none⟩ (.int .u8 0)).setCell ⟨w.heap.size + 1 + 1 + 1, 3, none⟩ (.int .i64 cl)) (w.heap.size + 1 + 1 + 1) 26 #[.int .i64 0, .int .i64 0, .int .u8 0, .int .i64 cl, .int .i64 sq] := g2.set_ 3 (.int .i64 cl)
        have g4 : Blk (((((X.setCell ⟨w.heap.size + 1 + 1 + 1, 0, none⟩ (.int .i64 0)).setCell ⟨w.heap.size + 1 + 1 + 1, 1, none⟩ (.int .i64 0)).setCell ⟨w.heap.size + 1 + 1 + 1, 2, none⟩ (.int .u8 0)).setCell ⟨w.heap.size + 1 + 1 + 1, 3, none⟩ (.int .i64 cl)).setCell ⟨w.heap.size + 1 + 1 + 1, 4, none⟩ (.int .i64 sq)) (w.heap.size + 1 + 1 + 1) 26 #[.int .i64 0, .int .i64 0, .int .u8 0, .int .i64 cl, .int .i64 sq] := g3.set_ 4 (.int .i64 sq)
        have g5 : Blk ((((((X.setCell ⟨w.heap.size + 1 + 1 + 1, 0, none⟩ (.int .i64 0)).setCell ⟨w.heap.size + 1 + 1 + 1, 1, none⟩ (.int .i64 0)).setCell ⟨w.heap.size + 1 + 1 + 1, 2, none⟩ (.int .u8 0)).setCell ⟨w.heap.size + 1 + 1 + 1, 3, none⟩ (.int .i64 cl)).setCell ⟨w.heap.size + 1 + 1 + 1, 4, none⟩ (.int .i64 sq)).setCell ⟨w.heap.size + 1 + 1 + 1, 0, none⟩ (.int .i64 1)) (w.heap.size + 1 + 1 + 1) 26 #[.int .i64 1, .int .i64 0, .int .u8 0, .int .i64 cl, .int .i64 sq] := g4.set_ 0 (.int .i64 1)
        have g6 : Blk (((((((X.setCell ⟨w.heap.size + 1 + 1 + 1, 0, none⟩ (.int .i64 0)).setCell ⟨w.heap.size + 1 + 1 + 1, 1, none⟩ (.int .i64 0)).setCell ⟨w.heap.size + 1 + 1 + 1, 2, none⟩ (.int .u8 0)).setCell ⟨w.heap.size + 1 + 1 + 1, 3, none⟩ (.int .i64 cl)).setCell ⟨w.heap.size + 1 + 1 + 1, 4, none⟩ (.int .i64 sq)).setCell ⟨w.heap.size + 1 + 1 + 1, 0, none⟩ (.int .i64 1)).setCell ⟨w.heap.size + 1 + 1 + 1, 1, none⟩ (.int .i64 0)) (w.heap.size + 1 + 1 + 1) 26 #[.int .i64 1, .int .i64 0, .int .u8 0, .int .i64 cl, .int .i64 sq] := g5.set_ 1 (.int .i64 0)
        have g7 : Blk ((((((((X.setCell ⟨w.heap.size + 1 + 1 + 1, 0, none⟩ (.int .i64 0)).setCell ⟨w.heap.size + 1 + 1 + 1, 1, none⟩ (.int .i64 0)).setCell ⟨w.heap.size + 1 + 1 + 1, 2, none⟩ (.int .u8 0)).setCell ⟨w.heap.size + 1 + 1 + 1, 3, none⟩ (.int .i64 cl)).setCell ⟨w.heap.size + 1 + 1 + 1, 4, none⟩ (.int .i64 sq)).setCell ⟨w.heap.size + 1 + 1 + 1, 0, none⟩ (.int .i64 1)).setCell ⟨w.heap.size + 1 + 1 + 1, 1, none⟩ (.int .i64 0)).setCell ⟨w.heap.size + 1 + 1 + 1, 2, none⟩ (.int .u8 119)) (w.heap.size + 1 + 1 + 1) 26 #[.int .i64 1, .int .i64 0, .int .u8 119, .int .i64 cl, .int .i64 sq] := g6.set_ 2 (.int .u8 119)
        have g8 : Blk (((((((((X.setCell ⟨w.heap.size + 1 + 1 + 1, 0, none⟩ (.int .i64 0)).setCell ⟨w.heap.size + 1 + 1 + 1, 1, none⟩ (.int .i64 0)).setCell ⟨w.heap.size + 1 + 1 + 1, 2, none⟩ (.int .u8 0)).setCell ⟨w.heap.size + 1 + 1 + 1, 3, none⟩ (.int .i64 cl)).setCell ⟨w.heap.size + 1 + 1 + 1, 4, none⟩ (.int .i64 sq)).setCell ⟨w.heap.size + 1 + 1 + 1, 0, none⟩ (.int .i64 1)).setCell ⟨w.heap.size + 1 + 1 + 1, 1, none⟩ (.int .i64 0)).setCell ⟨w.heap.size + 1 + 1 + 1, 2, none⟩ (.int .u8 119)).setCell ⟨w.heap.size + 1 + 1 + 1, 3, none⟩ (.int .i64 cl)) (w.heap.size + 1 + 1 + 1) 26 #[.int .i64 1, .int .i64 0, .int .u8 119, .int .i64 cl, .int .i64 sq] := g7.set_ 3 (.int .i64 cl)
        have g9 : Blk ((((((((((X.setCell ⟨w.heap.size + 1 + 1 + 1, 0, none⟩ (.int .i64 0)).setCell ⟨w.heap.size + 1 + 1 + 1, 1, none⟩ (.int .i64 0)).setCell ⟨w.heap.size + 1 + 1 + 1, 2, none⟩ (.int .u8 0)).setCell ⟨w.heap.size + 1 + 1 + 1, 3, none⟩ (.int .i64 cl)).setCell ⟨w.heap.size + 1 + 1 + 1, 4, none⟩ (.int .i64 sq)).setCell ⟨w.heap.size + 1 + 1 + 1, 0, none⟩ (.int .i64 1)).setCell ⟨w.heap.size + 1 + 1 + 1, 1, none⟩ (.int .i64 0)).setCell ⟨w.heap.size + 1 + 1 + 1, 2, none⟩ (.int .u8 119)).setCell ⟨w.heap.size + 1 + 1 + 1, 3, none⟩ (.int .i64 cl)).setCell ⟨w.heap.size + 1 + 1 + 1, 4, none⟩ (.int .i64 sq)) (w.heap.size + 1 + 1 + 1) 26 #[.int .i64 1, .int .i64 0, .int .u8 119, .int .i64 cl, .int .i64 sq] := g8.set_ 4 (.int .i64 sq)
        have hz := fun i => Blk.cell g9 i
        have hq : Blk ((((((((((X.setCell ⟨w.heap.size + 1 + 1 + 1, 0, none⟩ (.int .i64 0)).setCell ⟨w.heap.size + 1 + 1 + 1, 1, none⟩ (.int .i64 0)).setCell ⟨w.heap.size + 1 + 1 + 1, 2, none⟩ (.int .u8 0)).setCell ⟨w.heap.size + 1 + 1 + 1, 3, none⟩ (.int .i64 cl)).setCell ⟨w.heap.size + 1 + 1 + 1, 4, none⟩ (.int .i64 sq)).setCell ⟨w.heap.size + 1 + 1 + 1, 0, none⟩ (.int .i64 1)).setCell ⟨w.heap.size + 1 + 1 + 1, 1, none⟩ (.int .i64 0)).setCell ⟨w.heap.size + 1 + 1 + 1, 2, none⟩ (.int .u8 119)).setCell ⟨w.heap.size + 1 + 1 + 1, 3, none⟩ (.int .i64 cl)).setCell ⟨w.heap.size + 1 + 1 + 1, 4, none⟩ (.int .i64 sq)) (w.heap.size + 1 + 1) 26 #[.int .i64 0, .int .i64 0, .int .u8 0, .int .i64 0, .int .i64 0] := ((((((((((HQ.out.far (p := ⟨w.heap.size + 1 + 1 + 1, 0, none⟩) (by dsimp only; omega) (.int .i64 0)).far (p := ⟨w.heap.size + 1 + 1 + 1, 1, none⟩) (by dsimp only; omega) (.int .i64 0)).far (p := ⟨w.heap.size + 1 + 1 + 1, 2, none⟩) (by dsimp only; omega) (.int .u8 0)).far (p := ⟨w.heap.size + 1 + 1 + 1, 3, none⟩) (by dsimp only; omega) (.int .i64 cl)).far (p := ⟨w.heap.size + 1 + 1 + 1, 4, none⟩) (by dsimp only; omega) (.int .i64 sq)).far (p := ⟨w.heap.size + 1 + 1 + 1, 0, none⟩) (by dsimp only; omega) (.int .i64 1)).far (p := ⟨w.heap.size + 1 + 1 + 1, 1, none⟩) (by dsimp only; omega) (.int .i64 0)).far (p := ⟨w.heap.size + 1 + 1 + 1, 2, none⟩) (by dsimp only; omega) (.int .u8 119)).far (p := ⟨w.heap.size + 1 + 1 + 1, 3, none⟩) (by dsimp only; omega) (.int .i64 cl)).far (p := ⟨w.heap.size + 1 + 1 + 1, 4, none⟩) (by dsimp only; omega) (.int .i64 sq))
        have hf : Fr None' w ((((((((((X.setCell ⟨w.heap.size + 1 + 1 + 1, 0, none⟩ (.int .i64 0)).setCell ⟨w.heap.size + 1 + 1 + 1, 1, none⟩ (.int .i64 0)).setCell ⟨w.heap.size + 1 + 1 + 1, 2, none⟩ (.int .u8 0)).setCell ⟨w.heap.size + 1 + 1 + 1, 3, none⟩ (.int .i64 cl)).setCell ⟨w.heap.size + 1 + 1 + 1, 4, none⟩ (.int .i64 sq)).setCell ⟨w.heap.size + 1 + 1 + 1, 0, none⟩ (.int .i64 1)).setCell ⟨w.heap.size + 1 + 1 + 1, 1, none⟩ (.int .i64 0)).setCell ⟨w.heap.size + 1 + 1 + 1, 2, none⟩ (.int .u8 119)).setCell ⟨w.heap.size + 1 + 1 + 1, 3, none⟩ (.int .i64 cl)).setCell ⟨w.heap.size + 1 + 1 + 1, 4, none⟩ (.int .i64 sq)) := ((((((((((HF.out.setCell (p := ⟨w.heap.size + 1 + 1 + 1, 0, none⟩) (.inl (by dsimp only; omega)) (.int .i64 0)).setCell (p := ⟨w.heap.size + 1 + 1 + 1, 1, none⟩) (.inl (by dsimp only; omega)) (.int .i64 0)).setCell (p := ⟨w.heap.size + 1 + 1 + 1, 2, none⟩) (.inl (by dsimp only; omega)) (.int .u8 0)).setCell (p := ⟨w.heap.size + 1 + 1 + 1, 3, none⟩) (.inl (by dsimp only; omega)) (.int .i64 cl)).setCell (p := ⟨w.heap.size + 1 + 1 + 1, 4, none⟩) (.inl (by dsimp only; omega)) (.int .i64 sq)).setCell (p := ⟨w.heap.size + 1 + 1 + 1, 0, none⟩) (.inl (by dsimp only; omega)) (.int .i64 1)).setCell (p := ⟨w.heap.size + 1 + 1 + 1, 1, none⟩) (.inl (by dsimp only; omega)) (.int .i64 0)).setCell (p := ⟨w.heap.size + 1 + 1 + 1, 2, none⟩) (.inl (by dsimp only; omega)) (.int .u8 119)).setCell (p := ⟨w.heap.size + 1 + 1 + 1, 3, none⟩) (.inl (by dsimp only; omega)) (.int .i64 cl)).setCell (p := ⟨w.heap.size + 1 + 1 + 1, 4, none⟩) (.inl (by dsimp only; omega)) (.int .i64 sq))
        have HQ1 := Lib.hid hq
        have HF1 := Lib.hid hf
        clear hq hf g0 g1 g2 g3 g4 g5 g6 g7 g8 g9
        go_wp2
        clear hz
        have hq := HQ1.out
        have hf := HF1.out
        clear HQ1 HF1
        generalize ((((((((((X.setCell ⟨w.heap.size + 1 + 1 + 1, 0, none⟩ (.int .i64 0)).setCell ⟨w.heap.size + 1 + 1 + 1, 1, none⟩ (.int .i64 0)).setCell ⟨w.heap.size + 1 + 1 + 1, 2, none⟩ (.int .u8 0)).setCell ⟨w.heap.size + 1 + 1 + 1, 3, none⟩ (.int .i64 cl)).setCell ⟨w.heap.size + 1 + 1 + 1, 4, none⟩ (.int .i64 sq)).setCell ⟨w.heap.size + 1 + 1 + 1, 0, none⟩ (.int .i64 1)).setCell ⟨w.heap.size + 1 + 1 + 1, 1, none⟩ (.int .i64 0)).setCell ⟨w.heap.size + 1 + 1 + 1, 2, none⟩ (.int .u8 119)).setCell ⟨w.heap.size + 1 + 1 + 1, 3, none⟩ (.int .i64 cl)).setCell ⟨w.heap.size + 1 + 1 + 1, 4, none⟩ (.int .i64 sq)) = Z at *
        have hq2 : Blk (((((Z.setCell ⟨w.heap.size + 1 + 1, 0, none⟩ (.int .i64 1)).setCell ⟨w.heap.size + 1 + 1, 1, none⟩ (.int .i64 0)).setCell ⟨w.heap.size + 1 + 1, 2, none⟩ (.int .u8 119)).setCell ⟨w.heap.size + 1 + 1, 3, none⟩ (.int .i64 cl)).setCell ⟨w.heap.size + 1 + 1, 4, none⟩ (.int .i64 sq)) (w.heap.size + 1 + 1) 26 #[.int .i64 1, .int .i64 0, .int .u8 119, .int .i64 cl, .int .i64 sq] := hq.fill5 (.int .i64 1) (.int .i64 0) (.int .u8 119) (.int .i64 cl) (.int .i64 sq)
        have hf2 : Fr None' w (((((Z.setCell ⟨w.heap.size + 1 + 1, 0, none⟩ (.int .i64 1)).setCell ⟨w.heap.size + 1 + 1, 1, none⟩ (.int .i64 0)).setCell ⟨w.heap.size + 1 + 1, 2, none⟩ (.int .u8 119)).setCell ⟨w.heap.size + 1 + 1, 3, none⟩ (.int .i64 cl)).setCell ⟨w.heap.size + 1 + 1, 4, none⟩ (.int .i64 sq)) := (((((hf.setCell (p := ⟨w.heap.size + 1 + 1, 0, none⟩) (.inl (by dsimp only; omega)) (.int .i64 1)).setCell (p := ⟨w.heap.size + 1 + 1, 1, none⟩) (.inl (by dsimp only; omega)) (.int .i64 0)).setCell (p := ⟨w.heap.size + 1 + 1, 2, none⟩) (.inl (by dsimp only; omega)) (.int .u8 119)).setCell (p := ⟨w.heap.size + 1 + 1, 3, none⟩) (.inl (by dsimp only; omega)) (.int .i64 cl)).setCell (p := ⟨w.heap.size + 1 + 1, 4, none⟩) (.inl (by dsimp only; omega)) (.int .i64 sq))
        generalize (((((Z.setCell ⟨w.heap.size + 1 + 1, 0, none⟩ (.int .i64 1)).setCell ⟨w.heap.size + 1 + 1, 1, none⟩ (.int .i64 0)).setCell ⟨w.heap.size + 1 + 1, 2, none⟩ (.int .u8 119)).setCell ⟨w.heap.size + 1 + 1, 3, none⟩ (.int .i64 cl)).setCell ⟨w.heap.size + 1 + 1, 4, none⟩ (.int .i64 sq)) = Z2 at *
        have yz := fun i => Blk.cell hq2 i
        exact bodyPost_ret (v := .agg #[.int .i64 1, .int .i64 0, .int .u8 119, .int .i64 cl, .int .i64 sq]) (by simp [results, Tryz.results30, go_sem, yz]) rfl ⟨by rw [HRES.out]; simp [H0.out, H1.out], hf2⟩
end Go.Proofs.YtodkhoclbhdihaaGreatDoor

/-
  Contract of wire's body: the sum taken off a datagram.
-/
namespace Go.Proofs.YtodkhoclbhdihaaGreatDoor
open Go.RowKit

/-- An answer of an error: nothing and the error. -/
def ErrPost (z : Value) (w : World) (c a : Int) (e : Ending) (w' : World) : Prop := ∃ g, e = .returned (.tuple #[z, errV g]) ∧ Fault w' g a c ∧ Fr None' w w'

theorem fr_mid {w w1 w2 : World} {o : Obj} (h : Fr None' w w1) (k : Fr (Only w1.heap.size) (w1.alloc o) w2) : Fr None' w w2 :=
  (h.alloc o).trans k fun i hi hs => by unfold Only at hs; have := h.size; omega

theorem body_long (A : Option Addr) (n c : Nat) (w : World) (hn : 64 < n) :
    Calls Tryz.prog 70 #[.slice A n c] w (ErrPost (.slice none 0 0) w 60 64) := by
  have He := Lib.hid fun w => wrap_any 64 60 w
  go_enter Tryz.func70, Tryz.ntmps70
  go_wp2_with (go_at_call 62; refine (He.out _).mono ?_; rintro e w' ⟨rfl, hF, rfl⟩)
  go_ret2
  exact ⟨_, rfl, hF, (Fr.refl _ _).alloc _⟩

theorem body_short (A : Option Addr) (n c : Nat) (w : World) (hE : ErrT w) (hn : n < 4) :
    Calls Tryz.prog 70 #[.slice A n c] w (ErrPost (.slice none 0 0) w 62 n) := by
  have Ho := Lib.hid (open_short A n c w hn)
  go_enter Tryz.func70, Tryz.ntmps70
  go_wp2_with fail
  refine Ho.out.mono ?_
  rintro e w1 ⟨g, rfl, hF, hf1⟩
  have HF := Lib.hid hF
  have Hf1 := Lib.hid hf1
  have HE1 := Lib.hid (hE.fr hf1 fun h => h)
  clear hF hf1 hE
  have hf2 : Fr None' w1 (w1.alloc (.cells #[.pointer none] 145)) := (Fr.refl _ _).alloc _
  have Ha := Lib.hid (as_fault g w1.heap.size 145 (.pointer none) _ (HE1.out.fr hf2 fun h => h) (Blk.new w1 _ _))
  have HF2 := Lib.hid (HF.out.fr hf2 fun h => h)
  clear hf2
  unfold errV at *
  go_wp2_with fail
  refine Ha.out.mono ?_
  rintro e w2 ⟨rfl, hb, hf⟩
  have hF3 := HF2.out.fr hf (fun h => by have := HF.out.lt; unfold Only at h; omega)
  have HF3 := Lib.hid hF3
  have h0 := hF3.at_
  have h1 := hb.cell 0
  have Hf := Lib.hid hf
  have Hi := Lib.hid (is_any g (n : Int) 10 10 w2 hF3)
  clear hf hb hF3
  unfold errV at *
  go_wp2_with (first | (go_at_call 99; refine Hi.out.mono ?_; rintro e w3 ⟨rfl, rfl⟩) | (go_at_call 62; refine (wrap_any _ _ _).mono ?_; rintro e w' ⟨rfl, hF', rfl⟩))
  go_ret2
  exact ⟨_, rfl, hF', (fr_mid Hf1.out Hf.out).alloc _⟩

theorem body_bad (A : Option Addr) (n c : Nat) (xs : List UInt8) (w : World) (hE : ErrT w) (hT : Tab w) (ha : RB w A n xs) (h4 : 4 ≤ n) (hc : n ≤ c) (hn : n ≤ 64) (hx : xs.drop (n - 4) ≠ sum4 (crc (xs.take (n - 4)))) :
    Calls Tryz.prog 70 #[.slice A n c] w (ErrPost (.slice none 0 0) w 64 ((n - 4 : Nat) : Int)) := by
  obtain ⟨b, off, rfl, _, _⟩ := ha.2 (by omega)
  have ho := open_any b off n c xs w hT ha h4 hc (by omega)
  have Ho : RowKit.Hid (Calls Tryz.prog 98 #[.slice (some ⟨b, off, none⟩) n c] w fun e w' => ∃ g, e = .returned (.tuple #[.slice none 0 0, errV g]) ∧ Fault w' g ((n - 4 : Nat) : Int) 11 ∧ Fr None' w w') :=
    ho.mono fun e w' h => by
      rcases h with h | h
      · exact absurd h.1 hx
      · exact h.2
  obtain ⟨m, hm⟩ : ∃ m : Nat, m = n - 4 := ⟨_, rfl⟩
  rw [← hm] at Ho ⊢
  clear ho hx hT ha hm h4
  go_enter Tryz.func70, Tryz.ntmps70
  go_wp2_with fail
  refine Ho.out.mono ?_
  rintro e w1 ⟨g, rfl, hF, hf1⟩
  have HF := Lib.hid hF
  have Hf1 := Lib.hid hf1
  have HE1 := Lib.hid (hE.fr hf1 fun h => h)
  clear hF hf1 hE
  have hf2 : Fr None' w1 (w1.alloc (.cells #[.pointer none] 145)) := (Fr.refl _ _).alloc _
  have Ha := Lib.hid (as_fault g w1.heap.size 145 (.pointer none) _ (HE1.out.fr hf2 fun h => h) (Blk.new w1 _ _))
  have HF2 := Lib.hid (HF.out.fr hf2 fun h => h)
  clear hf2
  unfold errV at *
  go_wp2_with fail
  refine Ha.out.mono ?_
  rintro e w2 ⟨rfl, hb, hf⟩
  have hF3 := HF2.out.fr hf (fun h => by have := HF.out.lt; unfold Only at h; omega)
  have HF3 := Lib.hid hF3
  have h0 := hF3.at_
  have h1 := hb.cell 0
  have Hf := Lib.hid hf
  have Hi := Lib.hid (is_any g (m : Int) 11 10 w2 hF3)
  clear hf hb hF3
  unfold errV at *
  go_wp2_with (first | (go_at_call 99; refine Hi.out.mono ?_; rintro e w3 ⟨rfl, rfl⟩) | (go_at_call 62; refine (wrap_any _ _ _).mono ?_; rintro e w' ⟨rfl, hF', rfl⟩))
  go_ret2
  exact ⟨_, rfl, hF', (fr_mid Hf1.out Hf.out).alloc _⟩

/-- Where the sum is right: the bytes ahead of it, in new memory. -/
theorem body_ok (A : Option Addr) (n c : Nat) (xs : List UInt8) (w : World) (hT : Tab w) (ha : RB w A n xs) (h4 : 4 ≤ n) (hc : n ≤ c) (hn : n ≤ 64) (hx : xs.drop (n - 4) = sum4 (crc (xs.take (n - 4)))) :
    Calls Tryz.prog 70 #[.slice A n c] w fun e w' =>
      (n = 4 → ErrPost (.slice none 0 0) w 62 0 e w') ∧ (4 < n → ∃ v, e = .returned (.tuple #[v, .nilIface]) ∧ NewB w w' v (xs.take (n - 4)) ∧ Fr None' w w') := by
  obtain ⟨b, off, rfl, _, _⟩ := ha.2 (by omega)
  have hlen := ha.len1
  rw [List.length_map] at hlen
  have ho := open_any b off n c xs w hT ha h4 hc (by omega)
  have Ho : RowKit.Hid (Calls Tryz.prog 98 #[.slice (some ⟨b, off, none⟩) n c] w fun e w' => ∃ v, e = .returned (.tuple #[v, .nilIface]) ∧ NewB w w' v (xs.take (n - 4)) ∧ Fr None' w w') :=
    ho.mono fun e w' h => by
      rcases h with h | h
      · exact h.2
      · exact absurd hx h.1
  have hl2 : (xs.take (n - 4)).length = n - 4 := by simp; omega
  have HL := Lib.hid hl2
  have HA := Lib.hid fun t w => as_nil t w
  clear ho hx hT ha hl2 hlen
  generalize xs.take (n - 4) = l at *
  by_cases h : n = 4
  · have HH := Lib.hid h
    have hl0 : l.length = 0 := by have := HL.out; omega
    obtain rfl : l = [] := List.eq_nil_of_length_eq_zero hl0
    clear h hl0
    go_enter Tryz.func70, Tryz.ntmps70
    go_wp2_with fail
    refine Ho.out.mono ?_
    rintro e w1 ⟨v, rfl, ⟨g, hg, rfl, hb⟩, hf⟩
    have HF := Lib.hid hf
    clear hb hf hg
    go_wp2_with (first | (go_at_call 74; refine (HA.out _ _).mono ?_; rintro e w3 ⟨rfl, rfl⟩) | (go_at_call 62; refine (wrap_any _ _ _).mono ?_; rintro e w' ⟨rfl, hF', rfl⟩))
    go_ret2
    exact ⟨fun _ => ⟨_, rfl, by simpa using hF', (HF.out.alloc _).alloc _⟩, fun h => by have := HH.out; omega⟩
  · have HH := Lib.hid h
    have hl0 : ((l.length : Int) == 0) = false := by have := HL.out; simp; intro e; rw [e] at this; simp at this; omega
    clear h
    go_enter Tryz.func70, Tryz.ntmps70
    go_wp2_with fail
    refine Ho.out.mono ?_
    rintro e w1 ⟨v, rfl, ⟨g, hg, rfl, hb⟩, hf⟩
    have HF := Lib.hid hf
    have HB := Lib.hid hb
    clear hb hf
    go_wp2_with (first | (go_at_call 74; refine (HA.out _ _).mono ?_; rintro e w3 ⟨rfl, rfl⟩))
    go_ret2
    exact ⟨fun h => absurd h HH.out, fun _ => ⟨_, rfl, ⟨g, hg, rfl, HB.out.alloc _⟩, HF.out.alloc _⟩⟩
end Go.Proofs.YtodkhoclbhdihaaGreatDoor
