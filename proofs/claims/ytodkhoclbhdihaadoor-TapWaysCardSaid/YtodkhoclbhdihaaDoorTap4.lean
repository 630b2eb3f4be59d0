/-
  Contract of tap's fitsEdit.
-/
import Derived.Test.YtodkhoclbhdihaaDoorTap3
import Derived.Test.YtodkhoclbhdihaaDoorOrn
namespace Go.Proofs.YtodkhoclbhdihaaDoor
open Go.RowKit

theorem fitsEd_eq (T : GTap) (x : GEdit) : fitsEd T x = ((!(get T.edits (x.op.client, x.op.seq)).isSome || decide ((get T.edits (x.op.client, x.op.seq)).getD zeroEdit = x)) &&
    (!(get T.revs (x.op.client, x.op.seq)).isSome || togetherB ((get T.records ((get T.revs (x.op.client, x.op.seq)).getD 0)).getD zeroOp) x.op)) := by
  unfold fitsEd nameOf
  cases get T.revs (x.op.client, x.op.seq) <;> cases get T.edits (x.op.client, x.op.seq) <;> simp

set_option maxHeartbeats 16000000 in
theorem fitsEd_any (a r v e : Nat) (T : GTap) (x : GEdit) (w : World) (h : TapAt w a r v e T) :
    Calls Tryd.prog 26 #[.pointer (some ⟨a, 0, none⟩), editV x] w fun ev w' => ev = .returned (.bool (fitsEd T x)) ∧ Fr None' w w' := by
  have Ht := Lib.hid together_any
  have HE := Lib.hid (fitsEd_eq T x)
  have HN := Lib.hid (neq_e6 ((get T.edits (x.op.client, x.op.seq)).getD zeroEdit) x)
  obtain ⟨X, hX⟩ : ∃ X : World, X = (w.alloc (.cells #[.int .i64 x.tag, .int .i64 x.op.kind, .int .i64 x.op.pos, .int .u8 (x.op.ch.toNat : Int), .int .i64 x.op.client, .int .i64 x.op.seq] 78)).alloc (.cells #[.int .i64 x.op.client, .int .i64 x.op.seq] 74) := ⟨_, rfl⟩
  have HX := Lib.hid hX
  have hXf : Fr None' w X := by rw [hX]; exact ((Fr.refl _ _).alloc _).alloc _
  have hTd : Blk X w.heap.size 78 #[.int .i64 x.tag, .int .i64 x.op.kind, .int .i64 x.op.pos, .int .u8 (x.op.ch.toNat : Int), .int .i64 x.op.client, .int .i64 x.op.seq] := by rw [hX]; exact (Blk.new _ _ _).alloc _
  have hNm : Blk X (w.heap.size + 1) 74 #[.int .i64 x.op.client, .int .i64 x.op.seq] := by rw [hX]; have := Blk.new (w.alloc (.cells #[.int .i64 x.tag, .int .i64 x.op.kind, .int .i64 x.op.pos, .int .u8 (x.op.ch.toNat : Int), .int .i64 x.op.client, .int .i64 x.op.seq] 78)) 74 #[.int .i64 x.op.client, .int .i64 x.op.seq]; rw [show (w.alloc (.cells #[.int .i64 x.tag, .int .i64 x.op.kind, .int .i64 x.op.pos, .int .u8 (x.op.ch.toNat : Int), .int .i64 x.op.client, .int .i64 x.op.seq] 78)).heap.size = w.heap.size + 1 by simp] at this; exact this
  clear hX
  have hT := h.frn hXf
  have Hlv := Lib.hid fun (y : World) (hx : TapAt y a r v e T) => hx.lrev x.op.client x.op.seq
  have Hle := Lib.hid fun (y : World) (hx : TapAt y a r v e T) => hx.led x.op.client x.op.seq
  have Hlr := Lib.hid fun (y : World) (hx : TapAt y a r v e T) => hx.lrec1 ((get T.revs (x.op.client, x.op.seq)).getD 0)
  have Hc := Lib.hid fun (y : World) (hx : TapAt y a r v e T) => hx.cells
  have HT := Lib.hid hT
  have HTd := Lib.hid hTd
  have HNm := Lib.hid hNm
  have HF := Lib.hid hXf
  clear h hT hTd hNm hXf
  generalize hs2 : (get T.revs (x.op.client, x.op.seq)).isSome = s2 at *
  generalize hs3 : (get T.edits (x.op.client, x.op.seq)).isSome = s3 at *
  generalize (get T.revs (x.op.client, x.op.seq)).getD 0 = r1 at *
  generalize (get T.edits (x.op.client, x.op.seq)).getD zeroEdit = d1 at *
  generalize (get T.records r1).getD zeroOp = o1 at *
  clear hs2 hs3
  generalize fitsEd T x = res at *
  have HT3 : Hid (∀ w, Calls Tryd.prog 40 #[o5 o1, o5 x.op] w fun e w' => e = .returned (.bool (togetherB o1 x.op)) ∧ Fr None' w w') := Lib.hid fun w => Ht.out o1 x.op w
  clear Ht
  generalize togetherB o1 x.op = tog at *
  unfold editV opCells o5 e6 at *
  obtain ⟨tg, k, p, ch, cl, sq⟩ := x
  obtain ⟨k1, p1, ch1, cl1, sq1⟩ := o1
  obtain ⟨t6, k6, p6, ch6, cl6, sq6⟩ := d1
  dsimp only at *
  generalize decide (GEdit.mk t6 (GOp.mk k6 p6 ch6 cl6 sq6) = GEdit.mk tg (GOp.mk k p ch cl sq)) = b3 at *
  have hn1 := HN.out
  generalize (ch.toNat : Int) = c at *
  generalize (ch1.toNat : Int) = c1 at *
  generalize (ch6.toNat : Int) = c6 at *
  cases s3
  ·
    cases s2
    ·
      go_enter Tryd.func26, Tryd.ntmps26
      go_wp2
      rw [← HX.out]
      have z1 := fun x : Later X => Hc.out _ (HT.out.frn x.fr)
      have z2 := fun x : Later X => Hle.out _ (HT.out.frn x.fr)
      have z3 : ∀ (x : Later X) i, x.w.cell? ⟨w.heap.size, i, none⟩ = (#[.int .i64 tg, .int .i64 k, .int .i64 p, .int .u8 c, .int .i64 cl, .int .i64 sq] : Array Value)[i]? := fun x i => Blk.cell (HTd.out.fr x.fr fun h => h) i
      have z4 : ∀ (x : Later X) i, x.w.cell? ⟨w.heap.size + 1, i, none⟩ = (#[.int .i64 cl, .int .i64 sq] : Array Value)[i]? := fun x i => Blk.cell (HNm.out.fr x.fr fun h => h) i
      refine wp_region_L (by kernel_rfl) ?_
      refine wpL_heads 9 0 3 (by kernel_rfl) (by kernel_rfl) ?_ (by kernel_rfl)
      simp only [List.take_succ_cons, List.take_zero, List.drop_zero]
      repeat (go_big_quiet_step (fail))
      refine wpQuiet_nil ?_
      clear z1 z2 z3 z4
      refine wpL_step 9 rfl (by kernel_rfl) (fun wa ha ha' => ?_)
      have Ha := Lib.hid ha
      clear ha ha'
      go_wp2_with fail
      refine ⟨LC.mk (Ha.out.alloc _), ?_⟩
      have hz := Blk.new wa 76 #[.int .i64 0, .int .i64 0, .int .i64 0, .int .u8 0, .int .i64 0, .int .i64 0]
      have HZ := Lib.hid hz
      refine wpL_step 10 rfl (by kernel_rfl) (fun wb hb hb' => ?_)
      have hz' := HZ.out.fr hb' fun h => h
      have HZ' := Lib.hid hz'
      have Hb := Lib.hid hb
      have y1 := fun i => Blk.cell hz' i
      have y2 := fun i => Blk.frozen hz' i
      clear hz hz' HZ hb hb'
      go_wp2_with fail
      refine ⟨LC.mk ?_, ?_⟩
      · iterate 6 refine Fr.setCell ?_ (.inl Ha.out.size) _
        exact Hb.out
      clear y1 y2
      have HC := Lib.hid ((((((HZ'.out.set_ 0 (.int .i64 t6)).set_ 1 (.int .i64 k6)).set_ 2 (.int .i64 p6)).set_ 3 (.int .u8 c6)).set_ 4 (.int .i64 cl6)).set_ 5 (.int .i64 sq6))
      refine wpL_step 11 rfl (by kernel_rfl) (fun wc hc1 hc1' => ?_)
      have Hc1 := Lib.hid hc1
      have Hc2 := Lib.hid hc1'
      clear hc1 hc1'
      go_wp2_with fail
      refine ⟨LC.mk Hc1.out, ?_⟩
      refine wpL_done (by kernel_rfl) (fun w2 hc hc' => ?_)
      have HB2 : Hid (Blk w2 wa.heap.size 76 #[.int .i64 t6, .int .i64 k6, .int .i64 p6, .int .u8 c6, .int .i64 cl6, .int .i64 sq6]) := Lib.hid (by have := ((HC.out.fr Hc2.out fun h => h).fr hc' fun h => h); simpa using this)
      have HF2 := Lib.hid hc
      clear Hb HZ' HC Hc1 Hc2 hc hc'
      have HT2 := Lib.hid (HT.out.frn HF2.out)
      have u1 := Hc.out _ HT2.out
      have u3 := fun n => Hlv.out _ (HT2.out.frn ((Fr.refl _ _).drewN n))
      have u4 : ∀ i, w2.cell? ⟨w.heap.size, i, none⟩ = (#[.int .i64 tg, .int .i64 k, .int .i64 p, .int .u8 c, .int .i64 cl, .int .i64 sq] : Array Value)[i]? := fun i => Blk.cell (HTd.out.fr HF2.out fun h => h) i
      have u5 : ∀ i, w2.cell? ⟨w.heap.size + 1, i, none⟩ = (#[.int .i64 cl, .int .i64 sq] : Array Value)[i]? := fun i => Blk.cell (HNm.out.fr HF2.out fun h => h) i
      have u6 : ∀ i, w2.cell? ⟨wa.heap.size, i, none⟩ = (#[.int .i64 t6, .int .i64 k6, .int .i64 p6, .int .u8 c6, .int .i64 cl6, .int .i64 sq6] : Array Value)[i]? := fun i => Blk.cell HB2.out i
      go_wp2
      go_quiet (fail)
      clear u3
      go_wp2
      go_quiet (fail)
      go_wp2
      go_ret
      exact ⟨retB (by rw [HE.out]; simp), ((HF.out.trans' HF2.out).drewN _).trans' ((Fr.refl _ _).drewN _)⟩
    ·
      go_enter Tryd.func26, Tryd.ntmps26
      go_wp2
      rw [← HX.out]
      have z1 := fun x : Later X => Hc.out _ (HT.out.frn x.fr)
      have z2 := fun x : Later X => Hle.out _ (HT.out.frn x.fr)
      have z3 : ∀ (x : Later X) i, x.w.cell? ⟨w.heap.size, i, none⟩ = (#[.int .i64 tg, .int .i64 k, .int .i64 p, .int .u8 c, .int .i64 cl, .int .i64 sq] : Array Value)[i]? := fun x i => Blk.cell (HTd.out.fr x.fr fun h => h) i
      have z4 : ∀ (x : Later X) i, x.w.cell? ⟨w.heap.size + 1, i, none⟩ = (#[.int .i64 cl, .int .i64 sq] : Array Value)[i]? := fun x i => Blk.cell (HNm.out.fr x.fr fun h => h) i
      refine wp_region_L (by kernel_rfl) ?_
      refine wpL_heads 9 0 3 (by kernel_rfl) (by kernel_rfl) ?_ (by kernel_rfl)
      simp only [List.take_succ_cons, List.take_zero, List.drop_zero]
      repeat (go_big_quiet_step (fail))
      refine wpQuiet_nil ?_
      clear z1 z2 z3 z4
      refine wpL_step 9 rfl (by kernel_rfl) (fun wa ha ha' => ?_)
      have Ha := Lib.hid ha
      clear ha ha'
      go_wp2_with fail
      refine ⟨LC.mk (Ha.out.alloc _), ?_⟩
      have hz := Blk.new wa 76 #[.int .i64 0, .int .i64 0, .int .i64 0, .int .u8 0, .int .i64 0, .int .i64 0]
      have HZ := Lib.hid hz
      refine wpL_step 10 rfl (by kernel_rfl) (fun wb hb hb' => ?_)
      have hz' := HZ.out.fr hb' fun h => h
      have HZ' := Lib.hid hz'
      have Hb := Lib.hid hb
      have y1 := fun i => Blk.cell hz' i
      have y2 := fun i => Blk.frozen hz' i
      clear hz hz' HZ hb hb'
      go_wp2_with fail
      refine ⟨LC.mk ?_, ?_⟩
      · iterate 6 refine Fr.setCell ?_ (.inl Ha.out.size) _
        exact Hb.out
      clear y1 y2
      have HC := Lib.hid ((((((HZ'.out.set_ 0 (.int .i64 t6)).set_ 1 (.int .i64 k6)).set_ 2 (.int .i64 p6)).set_ 3 (.int .u8 c6)).set_ 4 (.int .i64 cl6)).set_ 5 (.int .i64 sq6))
      refine wpL_step 11 rfl (by kernel_rfl) (fun wc hc1 hc1' => ?_)
      have Hc1 := Lib.hid hc1
      have Hc2 := Lib.hid hc1'
      clear hc1 hc1'
      go_wp2_with fail
      refine ⟨LC.mk Hc1.out, ?_⟩
      refine wpL_done (by kernel_rfl) (fun w2 hc hc' => ?_)
      have HB2 : Hid (Blk w2 wa.heap.size 76 #[.int .i64 t6, .int .i64 k6, .int .i64 p6, .int .u8 c6, .int .i64 cl6, .int .i64 sq6]) := Lib.hid (by have := ((HC.out.fr Hc2.out fun h => h).fr hc' fun h => h); simpa using this)
      have HF2 := Lib.hid hc
      clear Hb HZ' HC Hc1 Hc2 hc hc'
      have HT2 := Lib.hid (HT.out.frn HF2.out)
      have u1 := Hc.out _ HT2.out
      have u3 := fun n => Hlv.out _ (HT2.out.frn ((Fr.refl _ _).drewN n))
      have u4 : ∀ i, w2.cell? ⟨w.heap.size, i, none⟩ = (#[.int .i64 tg, .int .i64 k, .int .i64 p, .int .u8 c, .int .i64 cl, .int .i64 sq] : Array Value)[i]? := fun i => Blk.cell (HTd.out.fr HF2.out fun h => h) i
      have u5 : ∀ i, w2.cell? ⟨w.heap.size + 1, i, none⟩ = (#[.int .i64 cl, .int .i64 sq] : Array Value)[i]? := fun i => Blk.cell (HNm.out.fr HF2.out fun h => h) i
      have u6 : ∀ i, w2.cell? ⟨wa.heap.size, i, none⟩ = (#[.int .i64 t6, .int .i64 k6, .int .i64 p6, .int .u8 c6, .int .i64 cl6, .int .i64 sq6] : Array Value)[i]? := fun i => Blk.cell HB2.out i
      go_wp2
      go_quiet (fail)
      clear u3
      go_wp2
      have HT8 := Lib.hid (HT2.out.frn ((Fr.refl _ _).drewN nq))
      have HTd8 := Lib.hid ((HTd.out.fr HF2.out fun h => h).drewN nq)
      have HF8 := Lib.hid ((HF.out.trans' HF2.out).drewN nq)
      clear u1 u4 u5 u6 HB2 HF2 HT2
      generalize w2.drewN nq = X8 at *
      have z1 := fun x : Later X8 => Hc.out _ (HT8.out.frn x.fr)
      have z2 := fun x : Later X8 => Hlr.out _ (HT8.out.frn x.fr)
      have z3 : ∀ (x : Later X8) i, x.w.cell? ⟨w.heap.size, i, none⟩ = (#[.int .i64 tg, .int .i64 k, .int .i64 p, .int .u8 c, .int .i64 cl, .int .i64 sq] : Array Value)[i]? := fun x i => Blk.cell (HTd8.out.fr x.fr fun h => h) i
      refine wp_region_L (by kernel_rfl) ?_
      refine wpL_heads 12 0 3 (by kernel_rfl) (by kernel_rfl) ?_ (by kernel_rfl)
      simp only [List.take_succ_cons, List.take_zero, List.drop_zero]
      repeat (go_big_quiet_step (fail))
      refine wpQuiet_nil ?_
      refine wpL_callG (by kernel_rfl) 12 56 rfl rfl (by kernel_rfl) (by rfl) _ _ _ (by intro w; simp [go_sem]) (fun w' _ => HT3.out w') ?_
      simp only [List.set_cons_succ, List.set_cons_zero]
      refine wpL_heads 2 13 0 (by kernel_rfl) (by kernel_rfl) ?_ (by kernel_rfl)
      simp only [List.take_succ_cons, List.take_zero, List.drop_succ_cons, List.drop_zero]
      repeat (go_big_quiet_step (fail))
      refine wpQuiet_nil ?_
      clear z1 z2 z3
      refine wpL_done (by kernel_rfl) (fun w9 hc hc' => ?_)
      have HF9 := Lib.hid (HF8.out.trans' hc)
      clear hc hc'
      go_wp2
      go_ret
      exact ⟨retB (by rw [HE.out]; simp), HF9.out⟩
  · cases b3
    ·
      go_enter Tryd.func26, Tryd.ntmps26
      go_wp2
      rw [← HX.out]
      have z1 := fun x : Later X => Hc.out _ (HT.out.frn x.fr)
      have z2 := fun x : Later X => Hle.out _ (HT.out.frn x.fr)
      have z3 : ∀ (x : Later X) i, x.w.cell? ⟨w.heap.size, i, none⟩ = (#[.int .i64 tg, .int .i64 k, .int .i64 p, .int .u8 c, .int .i64 cl, .int .i64 sq] : Array Value)[i]? := fun x i => Blk.cell (HTd.out.fr x.fr fun h => h) i
      have z4 : ∀ (x : Later X) i, x.w.cell? ⟨w.heap.size + 1, i, none⟩ = (#[.int .i64 cl, .int .i64 sq] : Array Value)[i]? := fun x i => Blk.cell (HNm.out.fr x.fr fun h => h) i
      refine wp_region_L (by kernel_rfl) ?_
      refine wpL_heads 9 0 3 (by kernel_rfl) (by kernel_rfl) ?_ (by kernel_rfl)
      simp only [List.take_succ_cons, List.take_zero, List.drop_zero]
      repeat (go_big_quiet_step (fail))
      refine wpQuiet_nil ?_
      clear z1 z2 z3 z4
      refine wpL_step 9 rfl (by kernel_rfl) (fun wa ha ha' => ?_)
      have Ha := Lib.hid ha
      clear ha ha'
      go_wp2_with fail
      refine ⟨LC.mk (Ha.out.alloc _), ?_⟩
      have hz := Blk.new wa 76 #[.int .i64 0, .int .i64 0, .int .i64 0, .int .u8 0, .int .i64 0, .int .i64 0]
      have HZ := Lib.hid hz
      refine wpL_step 10 rfl (by kernel_rfl) (fun wb hb hb' => ?_)
      have hz' := HZ.out.fr hb' fun h => h
      have HZ' := Lib.hid hz'
      have Hb := Lib.hid hb
      have y1 := fun i => Blk.cell hz' i
      have y2 := fun i => Blk.frozen hz' i
      clear hz hz' HZ hb hb'
      go_wp2_with fail
      refine ⟨LC.mk ?_, ?_⟩
      · iterate 6 refine Fr.setCell ?_ (.inl Ha.out.size) _
        exact Hb.out
      clear y1 y2
      have HC := Lib.hid ((((((HZ'.out.set_ 0 (.int .i64 t6)).set_ 1 (.int .i64 k6)).set_ 2 (.int .i64 p6)).set_ 3 (.int .u8 c6)).set_ 4 (.int .i64 cl6)).set_ 5 (.int .i64 sq6))
      refine wpL_step 11 rfl (by kernel_rfl) (fun wc hc1 hc1' => ?_)
      have Hc1 := Lib.hid hc1
      have Hc2 := Lib.hid hc1'
      clear hc1 hc1'
      go_wp2_with fail
      refine ⟨LC.mk Hc1.out, ?_⟩
      refine wpL_done (by kernel_rfl) (fun w2 hc hc' => ?_)
      have HB2 : Hid (Blk w2 wa.heap.size 76 #[.int .i64 t6, .int .i64 k6, .int .i64 p6, .int .u8 c6, .int .i64 cl6, .int .i64 sq6]) := Lib.hid (by have := ((HC.out.fr Hc2.out fun h => h).fr hc' fun h => h); simpa using this)
      have HF2 := Lib.hid hc
      clear Hb HZ' HC Hc1 Hc2 hc hc'
      have HT2 := Lib.hid (HT.out.frn HF2.out)
      have u1 := Hc.out _ HT2.out
      have u3 := fun n => Hlv.out _ (HT2.out.frn ((Fr.refl _ _).drewN n))
      have u4 : ∀ i, w2.cell? ⟨w.heap.size, i, none⟩ = (#[.int .i64 tg, .int .i64 k, .int .i64 p, .int .u8 c, .int .i64 cl, .int .i64 sq] : Array Value)[i]? := fun i => Blk.cell (HTd.out.fr HF2.out fun h => h) i
      have u5 : ∀ i, w2.cell? ⟨w.heap.size + 1, i, none⟩ = (#[.int .i64 cl, .int .i64 sq] : Array Value)[i]? := fun i => Blk.cell (HNm.out.fr HF2.out fun h => h) i
      have u6 : ∀ i, w2.cell? ⟨wa.heap.size, i, none⟩ = (#[.int .i64 t6, .int .i64 k6, .int .i64 p6, .int .u8 c6, .int .i64 cl6, .int .i64 sq6] : Array Value)[i]? := fun i => Blk.cell HB2.out i
      go_wp2
      go_ret
      exact ⟨retB (by rw [HE.out]; simp), HF.out.trans' HF2.out⟩
    ·
      cases s2
      ·
        go_enter Tryd.func26, Tryd.ntmps26
        go_wp2
        rw [← HX.out]
        have z1 := fun x : Later X => Hc.out _ (HT.out.frn x.fr)
        have z2 := fun x : Later X => Hle.out _ (HT.out.frn x.fr)
        have z3 : ∀ (x : Later X) i, x.w.cell? ⟨w.heap.size, i, none⟩ = (#[.int .i64 tg, .int .i64 k, .int .i64 p, .int .u8 c, .int .i64 cl, .int .i64 sq] : Array Value)[i]? := fun x i => Blk.cell (HTd.out.fr x.fr fun h => h) i
        have z4 : ∀ (x : Later X) i, x.w.cell? ⟨w.heap.size + 1, i, none⟩ = (#[.int .i64 cl, .int .i64 sq] : Array Value)[i]? := fun x i => Blk.cell (HNm.out.fr x.fr fun h => h) i
        refine wp_region_L (by kernel_rfl) ?_
        refine wpL_heads 9 0 3 (by kernel_rfl) (by kernel_rfl) ?_ (by kernel_rfl)
        simp only [List.take_succ_cons, List.take_zero, List.drop_zero]
        repeat (go_big_quiet_step (fail))
        refine wpQuiet_nil ?_
        clear z1 z2 z3 z4
        refine wpL_step 9 rfl (by kernel_rfl) (fun wa ha ha' => ?_)
        have Ha := Lib.hid ha
        clear ha ha'
        go_wp2_with fail
        refine ⟨LC.mk (Ha.out.alloc _), ?_⟩
        have hz := Blk.new wa 76 #[.int .i64 0, .int .i64 0, .int .i64 0, .int .u8 0, .int .i64 0, .int .i64 0]
        have HZ := Lib.hid hz
        refine wpL_step 10 rfl (by kernel_rfl) (fun wb hb hb' => ?_)
        have hz' := HZ.out.fr hb' fun h => h
        have HZ' := Lib.hid hz'
        have Hb := Lib.hid hb
        have y1 := fun i => Blk.cell hz' i
        have y2 := fun i => Blk.frozen hz' i
        clear hz hz' HZ hb hb'
        go_wp2_with fail
        refine ⟨LC.mk ?_, ?_⟩
        · iterate 6 refine Fr.setCell ?_ (.inl Ha.out.size) _
          exact Hb.out
        clear y1 y2
        have HC := Lib.hid ((((((HZ'.out.set_ 0 (.int .i64 t6)).set_ 1 (.int .i64 k6)).set_ 2 (.int .i64 p6)).set_ 3 (.int .u8 c6)).set_ 4 (.int .i64 cl6)).set_ 5 (.int .i64 sq6))
        refine wpL_step 11 rfl (by kernel_rfl) (fun wc hc1 hc1' => ?_)
        have Hc1 := Lib.hid hc1
        have Hc2 := Lib.hid hc1'
        clear hc1 hc1'
        go_wp2_with fail
        refine ⟨LC.mk Hc1.out, ?_⟩
        refine wpL_done (by kernel_rfl) (fun w2 hc hc' => ?_)
        have HB2 : Hid (Blk w2 wa.heap.size 76 #[.int .i64 t6, .int .i64 k6, .int .i64 p6, .int .u8 c6, .int .i64 cl6, .int .i64 sq6]) := Lib.hid (by have := ((HC.out.fr Hc2.out fun h => h).fr hc' fun h => h); simpa using this)
        have HF2 := Lib.hid hc
        clear Hb HZ' HC Hc1 Hc2 hc hc'
        have HT2 := Lib.hid (HT.out.frn HF2.out)
        have u1 := Hc.out _ HT2.out
        have u3 := fun n => Hlv.out _ (HT2.out.frn ((Fr.refl _ _).drewN n))
        have u4 : ∀ i, w2.cell? ⟨w.heap.size, i, none⟩ = (#[.int .i64 tg, .int .i64 k, .int .i64 p, .int .u8 c, .int .i64 cl, .int .i64 sq] : Array Value)[i]? := fun i => Blk.cell (HTd.out.fr HF2.out fun h => h) i
        have u5 : ∀ i, w2.cell? ⟨w.heap.size + 1, i, none⟩ = (#[.int .i64 cl, .int .i64 sq] : Array Value)[i]? := fun i => Blk.cell (HNm.out.fr HF2.out fun h => h) i
        have u6 : ∀ i, w2.cell? ⟨wa.heap.size, i, none⟩ = (#[.int .i64 t6, .int .i64 k6, .int .i64 p6, .int .u8 c6, .int .i64 cl6, .int .i64 sq6] : Array Value)[i]? := fun i => Blk.cell HB2.out i
        go_wp2
        go_quiet (fail)
        clear u3
        go_wp2
        go_quiet (fail)
        go_wp2
        go_ret
        exact ⟨retB (by rw [HE.out]; simp), ((HF.out.trans' HF2.out).drewN _).trans' ((Fr.refl _ _).drewN _)⟩
      ·
        go_enter Tryd.func26, Tryd.ntmps26
        go_wp2
        rw [← HX.out]
        have z1 := fun x : Later X => Hc.out _ (HT.out.frn x.fr)
        have z2 := fun x : Later X => Hle.out _ (HT.out.frn x.fr)
        have z3 : ∀ (x : Later X) i, x.w.cell? ⟨w.heap.size, i, none⟩ = (#[.int .i64 tg, .int .i64 k, .int .i64 p, .int .u8 c, .int .i64 cl, .int .i64 sq] : Array Value)[i]? := fun x i => Blk.cell (HTd.out.fr x.fr fun h => h) i
        have z4 : ∀ (x : Later X) i, x.w.cell? ⟨w.heap.size + 1, i, none⟩ = (#[.int .i64 cl, .int .i64 sq] : Array Value)[i]? := fun x i => Blk.cell (HNm.out.fr x.fr fun h => h) i
        refine wp_region_L (by kernel_rfl) ?_
        refine wpL_heads 9 0 3 (by kernel_rfl) (by kernel_rfl) ?_ (by kernel_rfl)
        simp only [List.take_succ_cons, List.take_zero, List.drop_zero]
        repeat (go_big_quiet_step (fail))
        refine wpQuiet_nil ?_
        clear z1 z2 z3 z4
        refine wpL_step 9 rfl (by kernel_rfl) (fun wa ha ha' => ?_)
        have Ha := Lib.hid ha
        clear ha ha'
        go_wp2_with fail
        refine ⟨LC.mk (Ha.out.alloc _), ?_⟩
        have hz := Blk.new wa 76 #[.int .i64 0, .int .i64 0, .int .i64 0, .int .u8 0, .int .i64 0, .int .i64 0]
        have HZ := Lib.hid hz
        refine wpL_step 10 rfl (by kernel_rfl) (fun wb hb hb' => ?_)
        have hz' := HZ.out.fr hb' fun h => h
        have HZ' := Lib.hid hz'
        have Hb := Lib.hid hb
        have y1 := fun i => Blk.cell hz' i
        have y2 := fun i => Blk.frozen hz' i
        clear hz hz' HZ hb hb'
        go_wp2_with fail
        refine ⟨LC.mk ?_, ?_⟩
        · iterate 6 refine Fr.setCell ?_ (.inl Ha.out.size) _
          exact Hb.out
        clear y1 y2
        have HC := Lib.hid ((((((HZ'.out.set_ 0 (.int .i64 t6)).set_ 1 (.int .i64 k6)).set_ 2 (.int .i64 p6)).set_ 3 (.int .u8 c6)).set_ 4 (.int .i64 cl6)).set_ 5 (.int .i64 sq6))
        refine wpL_step 11 rfl (by kernel_rfl) (fun wc hc1 hc1' => ?_)
        have Hc1 := Lib.hid hc1
        have Hc2 := Lib.hid hc1'
        clear hc1 hc1'
        go_wp2_with fail
        refine ⟨LC.mk Hc1.out, ?_⟩
        refine wpL_done (by kernel_rfl) (fun w2 hc hc' => ?_)
        have HB2 : Hid (Blk w2 wa.heap.size 76 #[.int .i64 t6, .int .i64 k6, .int .i64 p6, .int .u8 c6, .int .i64 cl6, .int .i64 sq6]) := Lib.hid (by have := ((HC.out.fr Hc2.out fun h => h).fr hc' fun h => h); simpa using this)
        have HF2 := Lib.hid hc
        clear Hb HZ' HC Hc1 Hc2 hc hc'
        have HT2 := Lib.hid (HT.out.frn HF2.out)
        have u1 := Hc.out _ HT2.out
        have u3 := fun n => Hlv.out _ (HT2.out.frn ((Fr.refl _ _).drewN n))
        have u4 : ∀ i, w2.cell? ⟨w.heap.size, i, none⟩ = (#[.int .i64 tg, .int .i64 k, .int .i64 p, .int .u8 c, .int .i64 cl, .int .i64 sq] : Array Value)[i]? := fun i => Blk.cell (HTd.out.fr HF2.out fun h => h) i
        have u5 : ∀ i, w2.cell? ⟨w.heap.size + 1, i, none⟩ = (#[.int .i64 cl, .int .i64 sq] : Array Value)[i]? := fun i => Blk.cell (HNm.out.fr HF2.out fun h => h) i
        have u6 : ∀ i, w2.cell? ⟨wa.heap.size, i, none⟩ = (#[.int .i64 t6, .int .i64 k6, .int .i64 p6, .int .u8 c6, .int .i64 cl6, .int .i64 sq6] : Array Value)[i]? := fun i => Blk.cell HB2.out i
        go_wp2
        go_quiet (fail)
        clear u3
        go_wp2
        have HT8 := Lib.hid (HT2.out.frn ((Fr.refl _ _).drewN nq))
        have HTd8 := Lib.hid ((HTd.out.fr HF2.out fun h => h).drewN nq)
        have HF8 := Lib.hid ((HF.out.trans' HF2.out).drewN nq)
        clear u1 u4 u5 u6 HB2 HF2 HT2
        generalize w2.drewN nq = X8 at *
        have z1 := fun x : Later X8 => Hc.out _ (HT8.out.frn x.fr)
        have z2 := fun x : Later X8 => Hlr.out _ (HT8.out.frn x.fr)
        have z3 : ∀ (x : Later X8) i, x.w.cell? ⟨w.heap.size, i, none⟩ = (#[.int .i64 tg, .int .i64 k, .int .i64 p, .int .u8 c, .int .i64 cl, .int .i64 sq] : Array Value)[i]? := fun x i => Blk.cell (HTd8.out.fr x.fr fun h => h) i
        refine wp_region_L (by kernel_rfl) ?_
        refine wpL_heads 12 0 3 (by kernel_rfl) (by kernel_rfl) ?_ (by kernel_rfl)
        simp only [List.take_succ_cons, List.take_zero, List.drop_zero]
        repeat (go_big_quiet_step (fail))
        refine wpQuiet_nil ?_
        refine wpL_callG (by kernel_rfl) 12 56 rfl rfl (by kernel_rfl) (by rfl) _ _ _ (by intro w; simp [go_sem]) (fun w' _ => HT3.out w') ?_
        simp only [List.set_cons_succ, List.set_cons_zero]
        refine wpL_heads 2 13 0 (by kernel_rfl) (by kernel_rfl) ?_ (by kernel_rfl)
        simp only [List.take_succ_cons, List.take_zero, List.drop_succ_cons, List.drop_zero]
        repeat (go_big_quiet_step (fail))
        refine wpQuiet_nil ?_
        clear z1 z2 z3
        refine wpL_done (by kernel_rfl) (fun w9 hc hc' => ?_)
        have HF9 := Lib.hid (HF8.out.trans' hc)
        clear hc hc'
        go_wp2
        go_ret
        exact ⟨retB (by rw [HE.out]; simp), HF9.out⟩
end Go.Proofs.YtodkhoclbhdihaaDoor
