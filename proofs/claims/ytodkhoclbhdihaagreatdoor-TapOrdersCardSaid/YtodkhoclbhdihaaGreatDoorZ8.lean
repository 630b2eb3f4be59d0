/-
  Contract of tap's fitsRecord.
-/
import Derived.Test.YtodkhoclbhdihaaGreatDoorZ7
namespace Go.Proofs.YtodkhoclbhdihaaGreatDoor
open Go.RowKit

theorem rec_under : Tryz.prog.underlying MR = some (.map INT OPT) := Tryz.underlying101
theorem rev_under : Tryz.prog.underlying MV = some (.map NM INT) := Tryz.underlying102
theorem ed_under : Tryz.prog.underlying ME = some (.map NM 67) := Tryz.underlying103
def o5 (o : GOp) : Value := .agg #[.int .i64 o.kind, .int .i64 o.pos, .int .u8 (o.ch.toNat : Int), .int .i64 o.client, .int .i64 o.seq]
def e6 (e : GEdit) : Value := .agg #[.int .i64 e.tag, .int .i64 e.op.kind, .int .i64 e.op.pos, .int .u8 (e.op.ch.toNat : Int), .int .i64 e.op.client, .int .i64 e.op.seq]
theorem TapAt.lrec {w : World} {a r v e : Nat} {T : GTap} (h : TapAt w a r v e T) (rev : Int) : (Instr.lookup MR (.map (some r)) (.int .i64 rev) true).run Tryz.prog w = .ok (.tuple #[o5 ((get T.records rev).getD zeroOp), .bool (get T.records rev).isSome]) w := by
  have := h.recs.look2 rec_under int_key mk_info rev
  have e1 : ((get T.records rev).map opV).getD (opV zeroOp) = o5 ((get T.records rev).getD zeroOp) := by cases get T.records rev <;> rfl
  rw [e1] at this
  exact this
theorem TapAt.lrec1 {w : World} {a r v e : Nat} {T : GTap} (h : TapAt w a r v e T) (rev : Int) : (Instr.lookup MR (.map (some r)) (.int .i64 rev) false).run Tryz.prog w = .ok (o5 ((get T.records rev).getD zeroOp)) w := by
  have := h.recs.look1 rec_under int_key mk_info rev
  have e1 : ((get T.records rev).map opV).getD (opV zeroOp) = o5 ((get T.records rev).getD zeroOp) := by cases get T.records rev <;> rfl
  rw [e1] at this
  exact this
theorem TapAt.lrev {w : World} {a r v e : Nat} {T : GTap} (h : TapAt w a r v e T) (c s : Int) : (Instr.lookup MV (.map (some v)) (.agg #[.int .i64 c, .int .i64 s]) true).run Tryz.prog w = .ok (.tuple #[.int .i64 ((get T.revs (c, s)).getD 0), .bool (get T.revs (c, s)).isSome]) w := by
  have := h.revs.look2 rev_under name_key mk_int (c, s)
  have e1 : ((get T.revs (c, s)).map vi).getD (vi 0) = .int .i64 ((get T.revs (c, s)).getD 0) := by cases get T.revs (c, s) <;> rfl
  rw [e1] at this
  exact this
theorem TapAt.led {w : World} {a r v e : Nat} {T : GTap} (h : TapAt w a r v e T) (c s : Int) : (Instr.lookup ME (.map (some e)) (.agg #[.int .i64 c, .int .i64 s]) true).run Tryz.prog w = .ok (.tuple #[e6 ((get T.edits (c, s)).getD zeroEdit), .bool (get T.edits (c, s)).isSome]) w := by
  have := h.eds.look2 ed_under name_key mk_edit (c, s)
  have e1 : ((get T.edits (c, s)).map editV).getD (editV zeroEdit) = e6 ((get T.edits (c, s)).getD zeroEdit) := by cases get T.edits (c, s) <;> rfl
  rw [e1] at this
  exact this
theorem neq_o5 (a b : GOp) (w : World) : (binOp .neq OPT (o5 a) (o5 b)).run Tryz.prog w = .ok (.bool (!decide (a = b))) w := neq_op w a b
theorem neq_e6 (a b : GEdit) (w : World) : (binOp .neq 67 (e6 a) (e6 b)).run Tryz.prog w = .ok (.bool (!decide (a = b))) w := neq_edit w a b

theorem fitsRec_eq (T : GTap) (rev : Int) (o : GOp) : fitsRec T rev o = ((!(get T.records rev).isSome || decide ((get T.records rev).getD zeroOp = o)) && (!(get T.revs (o.client, o.seq)).isSome || decide ((get T.revs (o.client, o.seq)).getD 0 = rev)) &&
    (!(get T.edits (o.client, o.seq)).isSome || togetherB o ((get T.edits (o.client, o.seq)).getD zeroEdit).op)) := by
  unfold fitsRec nameOf
  cases get T.records rev <;> cases get T.revs (o.client, o.seq) <;> cases get T.edits (o.client, o.seq) <;> simp

theorem TapAt.cells {w : World} {a r v e : Nat} {T : GTap} (h : TapAt w a r v e T) : ∀ i, w.cell? ⟨a, i, none⟩ = (#[.int .i64 T.clients, .int .i64 T.epoch, .map (some r), .map (some v), .map (some e)] : Array Value)[i]? := fun i => Blk.cell h.blk i

set_option maxHeartbeats 16000000 in
theorem fitsRec_any (a r v e : Nat) (T : GTap) (rev : Int) (o : GOp) (w : World) (h : TapAt w a r v e T) :
    Calls Tryz.prog 64 #[.pointer (some ⟨a, 0, none⟩), toldV rev o] w fun ev w' => ev = .returned (.bool (fitsRec T rev o)) ∧ Fr None' w w' := by
  have Ht := Lib.hid together_any
  have HE := Lib.hid (fitsRec_eq T rev o)
  have HN := Lib.hid (neq_o5 ((get T.records rev).getD zeroOp) o)
  obtain ⟨X, hX⟩ : ∃ X : World, X = (w.alloc (.cells #[.int .i64 rev, .int .i64 o.kind, .int .i64 o.pos, .int .u8 (o.ch.toNat : Int), .int .i64 o.client, .int .i64 o.seq] 122)).alloc (.cells #[.int .i64 o.client, .int .i64 o.seq] 114) := ⟨_, rfl⟩
  have HX := Lib.hid hX
  have hXf : Fr None' w X := by rw [hX]; exact ((Fr.refl _ _).alloc _).alloc _
  have hTd : Blk X w.heap.size 122 #[.int .i64 rev, .int .i64 o.kind, .int .i64 o.pos, .int .u8 (o.ch.toNat : Int), .int .i64 o.client, .int .i64 o.seq] := by rw [hX]; exact (Blk.new _ _ _).alloc _
  have hNm : Blk X (w.heap.size + 1) 114 #[.int .i64 o.client, .int .i64 o.seq] := by rw [hX]; have := Blk.new (w.alloc (.cells #[.int .i64 rev, .int .i64 o.kind, .int .i64 o.pos, .int .u8 (o.ch.toNat : Int), .int .i64 o.client, .int .i64 o.seq] 122)) 114 #[.int .i64 o.client, .int .i64 o.seq]; rw [show (w.alloc (.cells #[.int .i64 rev, .int .i64 o.kind, .int .i64 o.pos, .int .u8 (o.ch.toNat : Int), .int .i64 o.client, .int .i64 o.seq] 122)).heap.size = w.heap.size + 1 by simp] at this; exact this
  clear hX
  have hT := h.frn hXf
  have Hlr := Lib.hid fun (x : World) (hx : TapAt x a r v e T) => hx.lrec rev
  have Hlv := Lib.hid fun (x : World) (hx : TapAt x a r v e T) => hx.lrev o.client o.seq
  have Hle := Lib.hid fun (x : World) (hx : TapAt x a r v e T) => hx.led o.client o.seq
  have Hc := Lib.hid fun (x : World) (hx : TapAt x a r v e T) => hx.cells
  have HT := Lib.hid hT
  have HTd := Lib.hid hTd
  have HNm := Lib.hid hNm
  have HF := Lib.hid hXf
  clear h hT hTd hNm hXf
  generalize hs1 : (get T.records rev).isSome = s1 at *
  generalize hs2 : (get T.revs (o.client, o.seq)).isSome = s2 at *
  generalize hs3 : (get T.edits (o.client, o.seq)).isSome = s3 at *
  generalize (get T.records rev).getD zeroOp = o1 at *
  generalize (get T.revs (o.client, o.seq)).getD 0 = r1 at *
  generalize (get T.edits (o.client, o.seq)).getD zeroEdit = d1 at *
  clear hs1 hs2 hs3
  generalize fitsRec T rev o = res at *
  have HT3 : Hid (∀ w, Calls Tryz.prog 97 #[o5 o, o5 d1.op] w fun e w' => e = .returned (.bool (togetherB o d1.op)) ∧ Fr None' w w') := Lib.hid fun w => Ht.out o d1.op w
  clear Ht
  generalize togetherB o d1.op = tg at *
  unfold toldV opCells o5 e6 at *
  obtain ⟨k, p, ch, cl, sq⟩ := o
  obtain ⟨k1, p1, ch1, cl1, sq1⟩ := o1
  obtain ⟨t6, k6, p6, ch6, cl6, sq6⟩ := d1
  dsimp only at *
  generalize decide (GOp.mk k1 p1 ch1 cl1 sq1 = GOp.mk k p ch cl sq) = b1 at *
  have hb2 : (r1 != rev) = !decide (r1 = rev) := rfl
  generalize decide (r1 = rev) = b2 at *
  have hn1 := HN.out
  generalize (ch.toNat : Int) = c at *
  generalize (ch1.toNat : Int) = c1 at *
  generalize (ch6.toNat : Int) = c6 at *
  cases s1
  ·
    cases s2
    ·
      cases s3
      ·
        go_enter Tryz.func64, Tryz.ntmps64
        go_wp2
        rw [← HX.out]
        have z1 := fun x : Later X => Hc.out _ (HT.out.frn x.fr)
        have z2 := fun x : Later X => Hlr.out _ (HT.out.frn x.fr)
        have z3 : ∀ (x : Later X) i, x.w.cell? ⟨w.heap.size, i, none⟩ = (#[.int .i64 rev, .int .i64 k, .int .i64 p, .int .u8 c, .int .i64 cl, .int .i64 sq] : Array Value)[i]? := fun x i => Blk.cell (HTd.out.fr x.fr fun h => h) i
        have z4 : ∀ (x : Later X) i, x.w.cell? ⟨w.heap.size + 1, i, none⟩ = (#[.int .i64 cl, .int .i64 sq] : Array Value)[i]? := fun x i => Blk.cell (HNm.out.fr x.fr fun h => h) i
        refine wp_region_L (by kernel_rfl) ?_
        refine wpL_heads 10 0 3 (by kernel_rfl) (by kernel_rfl) ?_ (by kernel_rfl)
        simp only [List.take_succ_cons, List.take_zero, List.drop_zero]
        repeat (go_big_quiet_step (fail))
        refine wpQuiet_nil ?_
        clear z1 z2 z3 z4
        refine wpL_step 10 rfl (by kernel_rfl) (fun wa ha ha' => ?_)
        have Ha := Lib.hid ha
        clear ha ha'
        go_wp2_with fail
        refine ⟨LC.mk (Ha.out.alloc _), ?_⟩
        have hz := Blk.new wa 26 #[.int .i64 0, .int .i64 0, .int .u8 0, .int .i64 0, .int .i64 0]
        have HZ := Lib.hid hz
        refine wpL_step 11 rfl (by kernel_rfl) (fun wb hb hb' => ?_)
        have hz' := HZ.out.fr hb' fun h => h
        have HZ' := Lib.hid hz'
        have Hb := Lib.hid hb
        have y1 := fun i => Blk.cell hz' i
        have y2 := fun i => Blk.frozen hz' i
        clear hz hz' HZ hb hb'
        go_wp2_with fail
        refine ⟨LC.mk ?_, ?_⟩
        · iterate 5 refine Fr.setCell ?_ (.inl Ha.out.size) _
          exact Hb.out
        clear y1 y2
        have HC := Lib.hid (((((HZ'.out.set_ 0 (.int .i64 k1)).set_ 1 (.int .i64 p1)).set_ 2 (.int .u8 c1)).set_ 3 (.int .i64 cl1)).set_ 4 (.int .i64 sq1))
        refine wpL_step 12 rfl (by kernel_rfl) (fun wc hc1 hc1' => ?_)
        have Hc1 := Lib.hid hc1
        have Hc2 := Lib.hid hc1'
        clear hc1 hc1'
        go_wp2_with fail
        refine ⟨LC.mk Hc1.out, ?_⟩
        refine wpL_done (by kernel_rfl) (fun w2 hc hc' => ?_)
        have HB2 : Hid (Blk w2 wa.heap.size 26 #[.int .i64 k1, .int .i64 p1, .int .u8 c1, .int .i64 cl1, .int .i64 sq1]) := Lib.hid (by have := ((HC.out.fr Hc2.out fun h => h).fr hc' fun h => h); simpa using this)
        have HF2 := Lib.hid hc
        clear Hb HZ' HC Hc1 Hc2 hc hc'
        have HT2 := Lib.hid (HT.out.frn HF2.out)
        have u1 := Hc.out _ HT2.out
        have u3 := fun n => Hlv.out _ (HT2.out.frn ((Fr.refl _ _).drewN n))
        have u4 : ∀ i, w2.cell? ⟨w.heap.size, i, none⟩ = (#[.int .i64 rev, .int .i64 k, .int .i64 p, .int .u8 c, .int .i64 cl, .int .i64 sq] : Array Value)[i]? := fun i => Blk.cell (HTd.out.fr HF2.out fun h => h) i
        have u5 : ∀ i, w2.cell? ⟨w.heap.size + 1, i, none⟩ = (#[.int .i64 cl, .int .i64 sq] : Array Value)[i]? := fun i => Blk.cell (HNm.out.fr HF2.out fun h => h) i
        have u6 : ∀ i, w2.cell? ⟨wa.heap.size, i, none⟩ = (#[.int .i64 k1, .int .i64 p1, .int .u8 c1, .int .i64 cl1, .int .i64 sq1] : Array Value)[i]? := fun i => Blk.cell HB2.out i
        go_wp2
        go_quiet (fail)
        clear u3
        go_wp2
        have HT8 := Lib.hid (HT2.out.frn ((Fr.refl _ _).drewN nq))
        have HTd8 := Lib.hid ((HTd.out.fr HF2.out fun h => h).drewN nq)
        have HNm8 := Lib.hid ((HNm.out.fr HF2.out fun h => h).drewN nq)
        have HF8 := Lib.hid ((HF.out.trans' HF2.out).drewN nq)
        clear u1 u4 u5 u6 HB2 HF2 HT2
        generalize w2.drewN nq = X8 at *
        have z1 := fun x : Later X8 => Hc.out _ (HT8.out.frn x.fr)
        have z2 := fun x : Later X8 => Hle.out _ (HT8.out.frn x.fr)
        have z3 : ∀ (x : Later X8) i, x.w.cell? ⟨w.heap.size, i, none⟩ = (#[.int .i64 rev, .int .i64 k, .int .i64 p, .int .u8 c, .int .i64 cl, .int .i64 sq] : Array Value)[i]? := fun x i => Blk.cell (HTd8.out.fr x.fr fun h => h) i
        have z4 : ∀ (x : Later X8) i, x.w.cell? ⟨w.heap.size + 1, i, none⟩ = (#[.int .i64 cl, .int .i64 sq] : Array Value)[i]? := fun x i => Blk.cell (HNm8.out.fr x.fr fun h => h) i
        refine wp_region_L (by kernel_rfl) ?_
        refine wpL_heads 9 0 3 (by kernel_rfl) (by kernel_rfl) ?_ (by kernel_rfl)
        simp only [List.take_succ_cons, List.take_zero, List.drop_zero]
        repeat (go_big_quiet_step (fail))
        refine wpQuiet_nil ?_
        clear z1 z2 z3 z4
        refine wpL_step 9 rfl (by kernel_rfl) (fun wa ha ha' => ?_)
        have Ha := Lib.hid ha
        clear ha ha'
        go_wp2_with fail
        refine ⟨LC.mk (Ha.out.alloc _), ?_⟩
        have hz := Blk.new wa 67 #[.int .i64 0, .int .i64 0, .int .i64 0, .int .u8 0, .int .i64 0, .int .i64 0]
        have HZ := Lib.hid hz
        refine wpL_step 10 rfl (by kernel_rfl) (fun wb hb hb' => ?_)
        have hz' := HZ.out.fr hb' fun h => h
        have HZ' := Lib.hid hz'
        have Hb := Lib.hid hb
        have y1 := fun i => Blk.cell hz' i
        have y2 := fun i => Blk.frozen hz' i
        clear hz hz' HZ hb hb'
        go_wp2_with fail
        refine ⟨LC.mk ?_, ?_⟩
        · iterate 6 refine Fr.setCell ?_ (.inl Ha.out.size) _
          exact Hb.out
        clear y1 y2
        have HC := Lib.hid ((((((HZ'.out.set_ 0 (.int .i64 t6)).set_ 1 (.int .i64 k6)).set_ 2 (.int .i64 p6)).set_ 3 (.int .u8 c6)).set_ 4 (.int .i64 cl6)).set_ 5 (.int .i64 sq6))
        refine wpL_step 11 rfl (by kernel_rfl) (fun wc hc1 hc1' => ?_)
        have Hc1 := Lib.hid hc1
        have Hc2 := Lib.hid hc1'
        clear hc1 hc1'
        go_wp2_with fail
        refine ⟨LC.mk Hc1.out, ?_⟩
        refine wpL_done (by kernel_rfl) (fun w9 hc hc' => ?_)
        have HB9 : Hid (Blk w9 wa.heap.size 67 #[.int .i64 t6, .int .i64 k6, .int .i64 p6, .int .u8 c6, .int .i64 cl6, .int .i64 sq6]) := Lib.hid (by have := ((HC.out.fr Hc2.out fun h => h).fr hc' fun h => h); simpa using this)
        have HF9 := Lib.hid hc
        clear Hb HZ' HC Hc1 Hc2 hc hc'
        have u4 : ∀ i, w9.cell? ⟨w.heap.size, i, none⟩ = (#[.int .i64 rev, .int .i64 k, .int .i64 p, .int .u8 c, .int .i64 cl, .int .i64 sq] : Array Value)[i]? := fun i => Blk.cell (HTd8.out.fr HF9.out fun h => h) i
        have u6 : ∀ i, w9.cell? ⟨wa.heap.size, i, none⟩ = (#[.int .i64 t6, .int .i64 k6, .int .i64 p6, .int .u8 c6, .int .i64 cl6, .int .i64 sq6] : Array Value)[i]? := fun i => Blk.cell HB9.out i
        have HG := Lib.hid (HF8.out.trans' HF9.out)
        go_wp2
        go_ret
        exact ⟨retB (by rw [HE.out]; simp), HG.out⟩
      ·
        go_enter Tryz.func64, Tryz.ntmps64
        go_wp2
        rw [← HX.out]
        have z1 := fun x : Later X => Hc.out _ (HT.out.frn x.fr)
        have z2 := fun x : Later X => Hlr.out _ (HT.out.frn x.fr)
        have z3 : ∀ (x : Later X) i, x.w.cell? ⟨w.heap.size, i, none⟩ = (#[.int .i64 rev, .int .i64 k, .int .i64 p, .int .u8 c, .int .i64 cl, .int .i64 sq] : Array Value)[i]? := fun x i => Blk.cell (HTd.out.fr x.fr fun h => h) i
        have z4 : ∀ (x : Later X) i, x.w.cell? ⟨w.heap.size + 1, i, none⟩ = (#[.int .i64 cl, .int .i64 sq] : Array Value)[i]? := fun x i => Blk.cell (HNm.out.fr x.fr fun h => h) i
        refine wp_region_L (by kernel_rfl) ?_
        refine wpL_heads 10 0 3 (by kernel_rfl) (by kernel_rfl) ?_ (by kernel_rfl)
        simp only [List.take_succ_cons, List.take_zero, List.drop_zero]
        repeat (go_big_quiet_step (fail))
        refine wpQuiet_nil ?_
        clear z1 z2 z3 z4
        refine wpL_step 10 rfl (by kernel_rfl) (fun wa ha ha' => ?_)
        have Ha := Lib.hid ha
        clear ha ha'
        go_wp2_with fail
        refine ⟨LC.mk (Ha.out.alloc _), ?_⟩
        have hz := Blk.new wa 26 #[.int .i64 0, .int .i64 0, .int .u8 0, .int .i64 0, .int .i64 0]
        have HZ := Lib.hid hz
        refine wpL_step 11 rfl (by kernel_rfl) (fun wb hb hb' => ?_)
        have hz' := HZ.out.fr hb' fun h => h
        have HZ' := Lib.hid hz'
        have Hb := Lib.hid hb
        have y1 := fun i => Blk.cell hz' i
        have y2 := fun i => Blk.frozen hz' i
        clear hz hz' HZ hb hb'
        go_wp2_with fail
        refine ⟨LC.mk ?_, ?_⟩
        · iterate 5 refine Fr.setCell ?_ (.inl Ha.out.size) _
          exact Hb.out
        clear y1 y2
        have HC := Lib.hid (((((HZ'.out.set_ 0 (.int .i64 k1)).set_ 1 (.int .i64 p1)).set_ 2 (.int .u8 c1)).set_ 3 (.int .i64 cl1)).set_ 4 (.int .i64 sq1))
        refine wpL_step 12 rfl (by kernel_rfl) (fun wc hc1 hc1' => ?_)
        have Hc1 := Lib.hid hc1
        have Hc2 := Lib.hid hc1'
        clear hc1 hc1'
        go_wp2_with fail
        refine ⟨LC.mk Hc1.out, ?_⟩
        refine wpL_done (by kernel_rfl) (fun w2 hc hc' => ?_)
        have HB2 : Hid (Blk w2 wa.heap.size 26 #[.int .i64 k1, .int .i64 p1, .int .u8 c1, .int .i64 cl1, .int .i64 sq1]) := Lib.hid (by have := ((HC.out.fr Hc2.out fun h => h).fr hc' fun h => h); simpa using this)
        have HF2 := Lib.hid hc
        clear Hb HZ' HC Hc1 Hc2 hc hc'
        have HT2 := Lib.hid (HT.out.frn HF2.out)
        have u1 := Hc.out _ HT2.out
        have u3 := fun n => Hlv.out _ (HT2.out.frn ((Fr.refl _ _).drewN n))
        have u4 : ∀ i, w2.cell? ⟨w.heap.size, i, none⟩ = (#[.int .i64 rev, .int .i64 k, .int .i64 p, .int .u8 c, .int .i64 cl, .int .i64 sq] : Array Value)[i]? := fun i => Blk.cell (HTd.out.fr HF2.out fun h => h) i
        have u5 : ∀ i, w2.cell? ⟨w.heap.size + 1, i, none⟩ = (#[.int .i64 cl, .int .i64 sq] : Array Value)[i]? := fun i => Blk.cell (HNm.out.fr HF2.out fun h => h) i
        have u6 : ∀ i, w2.cell? ⟨wa.heap.size, i, none⟩ = (#[.int .i64 k1, .int .i64 p1, .int .u8 c1, .int .i64 cl1, .int .i64 sq1] : Array Value)[i]? := fun i => Blk.cell HB2.out i
        go_wp2
        go_quiet (fail)
        clear u3
        go_wp2
        have HT8 := Lib.hid (HT2.out.frn ((Fr.refl _ _).drewN nq))
        have HTd8 := Lib.hid ((HTd.out.fr HF2.out fun h => h).drewN nq)
        have HNm8 := Lib.hid ((HNm.out.fr HF2.out fun h => h).drewN nq)
        have HF8 := Lib.hid ((HF.out.trans' HF2.out).drewN nq)
        clear u1 u4 u5 u6 HB2 HF2 HT2
        generalize w2.drewN nq = X8 at *
        have z1 := fun x : Later X8 => Hc.out _ (HT8.out.frn x.fr)
        have z2 := fun x : Later X8 => Hle.out _ (HT8.out.frn x.fr)
        have z3 : ∀ (x : Later X8) i, x.w.cell? ⟨w.heap.size, i, none⟩ = (#[.int .i64 rev, .int .i64 k, .int .i64 p, .int .u8 c, .int .i64 cl, .int .i64 sq] : Array Value)[i]? := fun x i => Blk.cell (HTd8.out.fr x.fr fun h => h) i
        have z4 : ∀ (x : Later X8) i, x.w.cell? ⟨w.heap.size + 1, i, none⟩ = (#[.int .i64 cl, .int .i64 sq] : Array Value)[i]? := fun x i => Blk.cell (HNm8.out.fr x.fr fun h => h) i
        refine wp_region_L (by kernel_rfl) ?_
        refine wpL_heads 9 0 3 (by kernel_rfl) (by kernel_rfl) ?_ (by kernel_rfl)
        simp only [List.take_succ_cons, List.take_zero, List.drop_zero]
        repeat (go_big_quiet_step (fail))
        refine wpQuiet_nil ?_
        clear z1 z2 z3 z4
        refine wpL_step 9 rfl (by kernel_rfl) (fun wa ha ha' => ?_)
        have Ha := Lib.hid ha
        clear ha ha'
        go_wp2_with fail
        refine ⟨LC.mk (Ha.out.alloc _), ?_⟩
        have hz := Blk.new wa 67 #[.int .i64 0, .int .i64 0, .int .i64 0, .int .u8 0, .int .i64 0, .int .i64 0]
        have HZ := Lib.hid hz
        refine wpL_step 10 rfl (by kernel_rfl) (fun wb hb hb' => ?_)
        have hz' := HZ.out.fr hb' fun h => h
        have HZ' := Lib.hid hz'
        have Hb := Lib.hid hb
        have y1 := fun i => Blk.cell hz' i
        have y2 := fun i => Blk.frozen hz' i
        clear hz hz' HZ hb hb'
        go_wp2_with fail
        refine ⟨LC.mk ?_, ?_⟩
        · iterate 6 refine Fr.setCell ?_ (.inl Ha.out.size) _
          exact Hb.out
        clear y1 y2
        have HC := Lib.hid ((((((HZ'.out.set_ 0 (.int .i64 t6)).set_ 1 (.int .i64 k6)).set_ 2 (.int .i64 p6)).set_ 3 (.int .u8 c6)).set_ 4 (.int .i64 cl6)).set_ 5 (.int .i64 sq6))
        refine wpL_step 11 rfl (by kernel_rfl) (fun wc hc1 hc1' => ?_)
        have Hc1 := Lib.hid hc1
        have Hc2 := Lib.hid hc1'
        clear hc1 hc1'
        go_wp2_with fail
        refine ⟨LC.mk Hc1.out, ?_⟩
        refine wpL_done (by kernel_rfl) (fun w9 hc hc' => ?_)
        have HB9 : Hid (Blk w9 wa.heap.size 67 #[.int .i64 t6, .int .i64 k6, .int .i64 p6, .int .u8 c6, .int .i64 cl6, .int .i64 sq6]) := Lib.hid (by have := ((HC.out.fr Hc2.out fun h => h).fr hc' fun h => h); simpa using this)
        have HF9 := Lib.hid hc
        clear Hb HZ' HC Hc1 Hc2 hc hc'
        have u4 : ∀ i, w9.cell? ⟨w.heap.size, i, none⟩ = (#[.int .i64 rev, .int .i64 k, .int .i64 p, .int .u8 c, .int .i64 cl, .int .i64 sq] : Array Value)[i]? := fun i => Blk.cell (HTd8.out.fr HF9.out fun h => h) i
        have u6 : ∀ i, w9.cell? ⟨wa.heap.size, i, none⟩ = (#[.int .i64 t6, .int .i64 k6, .int .i64 p6, .int .u8 c6, .int .i64 cl6, .int .i64 sq6] : Array Value)[i]? := fun i => Blk.cell HB9.out i
        have HG := Lib.hid (HF8.out.trans' HF9.out)
        go_wp2_with (go_at_call 97; refine (HT3.out _).mono ?_; rintro e1 w10 ⟨rfl, hf10⟩)
        go_ret
        exact ⟨retB (by rw [HE.out]; simp), HG.out.trans' hf10⟩
    · cases b2
      ·
        go_enter Tryz.func64, Tryz.ntmps64
        go_wp2
        rw [← HX.out]
        have z1 := fun x : Later X => Hc.out _ (HT.out.frn x.fr)
        have z2 := fun x : Later X => Hlr.out _ (HT.out.frn x.fr)
        have z3 : ∀ (x : Later X) i, x.w.cell? ⟨w.heap.size, i, none⟩ = (#[.int .i64 rev, .int .i64 k, .int .i64 p, .int .u8 c, .int .i64 cl, .int .i64 sq] : Array Value)[i]? := fun x i => Blk.cell (HTd.out.fr x.fr fun h => h) i
        have z4 : ∀ (x : Later X) i, x.w.cell? ⟨w.heap.size + 1, i, none⟩ = (#[.int .i64 cl, .int .i64 sq] : Array Value)[i]? := fun x i => Blk.cell (HNm.out.fr x.fr fun h => h) i
        refine wp_region_L (by kernel_rfl) ?_
        refine wpL_heads 10 0 3 (by kernel_rfl) (by kernel_rfl) ?_ (by kernel_rfl)
        simp only [List.take_succ_cons, List.take_zero, List.drop_zero]
        repeat (go_big_quiet_step (fail))
        refine wpQuiet_nil ?_
        clear z1 z2 z3 z4
        refine wpL_step 10 rfl (by kernel_rfl) (fun wa ha ha' => ?_)
        have Ha := Lib.hid ha
        clear ha ha'
        go_wp2_with fail
        refine ⟨LC.mk (Ha.out.alloc _), ?_⟩
        have hz := Blk.new wa 26 #[.int .i64 0, .int .i64 0, .int .u8 0, .int .i64 0, .int .i64 0]
        have HZ := Lib.hid hz
        refine wpL_step 11 rfl (by kernel_rfl) (fun wb hb hb' => ?_)
        have hz' := HZ.out.fr hb' fun h => h
        have HZ' := Lib.hid hz'
        have Hb := Lib.hid hb
        have y1 := fun i => Blk.cell hz' i
        have y2 := fun i => Blk.frozen hz' i
        clear hz hz' HZ hb hb'
        go_wp2_with fail
        refine ⟨LC.mk ?_, ?_⟩
        · iterate 5 refine Fr.setCell ?_ (.inl Ha.out.size) _
          exact Hb.out
        clear y1 y2
        have HC := Lib.hid (((((HZ'.out.set_ 0 (.int .i64 k1)).set_ 1 (.int .i64 p1)).set_ 2 (.int .u8 c1)).set_ 3 (.int .i64 cl1)).set_ 4 (.int .i64 sq1))
        refine wpL_step 12 rfl (by kernel_rfl) (fun wc hc1 hc1' => ?_)
        have Hc1 := Lib.hid hc1
        have Hc2 := Lib.hid hc1'
        clear hc1 hc1'
        go_wp2_with fail
        refine ⟨LC.mk Hc1.out, ?_⟩
        refine wpL_done (by kernel_rfl) (fun w2 hc hc' => ?_)
        have HB2 : Hid (Blk w2 wa.heap.size 26 #[.int .i64 k1, .int .i64 p1, .int .u8 c1, .int .i64 cl1, .int .i64 sq1]) := Lib.hid (by have := ((HC.out.fr Hc2.out fun h => h).fr hc' fun h => h); simpa using this)
        have HF2 := Lib.hid hc
        clear Hb HZ' HC Hc1 Hc2 hc hc'
        have HT2 := Lib.hid (HT.out.frn HF2.out)
        have u1 := Hc.out _ HT2.out
        have u3 := fun n => Hlv.out _ (HT2.out.frn ((Fr.refl _ _).drewN n))
        have u4 : ∀ i, w2.cell? ⟨w.heap.size, i, none⟩ = (#[.int .i64 rev, .int .i64 k, .int .i64 p, .int .u8 c, .int .i64 cl, .int .i64 sq] : Array Value)[i]? := fun i => Blk.cell (HTd.out.fr HF2.out fun h => h) i
        have u5 : ∀ i, w2.cell? ⟨w.heap.size + 1, i, none⟩ = (#[.int .i64 cl, .int .i64 sq] : Array Value)[i]? := fun i => Blk.cell (HNm.out.fr HF2.out fun h => h) i
        have u6 : ∀ i, w2.cell? ⟨wa.heap.size, i, none⟩ = (#[.int .i64 k1, .int .i64 p1, .int .u8 c1, .int .i64 cl1, .int .i64 sq1] : Array Value)[i]? := fun i => Blk.cell HB2.out i
        go_wp2
        go_quiet (fail)
        clear u3
        go_wp2
        go_ret
        exact ⟨retB (by rw [HE.out]; simp), (HF.out.trans' HF2.out).drewN _⟩
      ·
        cases s3
        ·
          go_enter Tryz.func64, Tryz.ntmps64
          go_wp2
          rw [← HX.out]
          have z1 := fun x : Later X => Hc.out _ (HT.out.frn x.fr)
          have z2 := fun x : Later X => Hlr.out _ (HT.out.frn x.fr)
          have z3 : ∀ (x : Later X) i, x.w.cell? ⟨w.heap.size, i, none⟩ = (#[.int .i64 rev, .int .i64 k, .int .i64 p, .int .u8 c, .int .i64 cl, .int .i64 sq] : Array Value)[i]? := fun x i => Blk.cell (HTd.out.fr x.fr fun h => h) i
          have z4 : ∀ (x : Later X) i, x.w.cell? ⟨w.heap.size + 1, i, none⟩ = (#[.int .i64 cl, .int .i64 sq] : Array Value)[i]? := fun x i => Blk.cell (HNm.out.fr x.fr fun h => h) i
          refine wp_region_L (by kernel_rfl) ?_
          refine wpL_heads 10 0 3 (by kernel_rfl) (by kernel_rfl) ?_ (by kernel_rfl)
          simp only [List.take_succ_cons, List.take_zero, List.drop_zero]
          repeat (go_big_quiet_step (fail))
          refine wpQuiet_nil ?_
          clear z1 z2 z3 z4
          refine wpL_step 10 rfl (by kernel_rfl) (fun wa ha ha' => ?_)
          have Ha := Lib.hid ha
          clear ha ha'
          go_wp2_with fail
          refine ⟨LC.mk (Ha.out.alloc _), ?_⟩
          have hz := Blk.new wa 26 #[.int .i64 0, .int .i64 0, .int .u8 0, .int .i64 0, .int .i64 0]
          have HZ := Lib.hid hz
          refine wpL_step 11 rfl (by kernel_rfl) (fun wb hb hb' => ?_)
          have hz' := HZ.out.fr hb' fun h => h
          have HZ' := Lib.hid hz'
          have Hb := Lib.hid hb
          have y1 := fun i => Blk.cell hz' i
          have y2 := fun i => Blk.frozen hz' i
          clear hz hz' HZ hb hb'
          go_wp2_with fail
          refine ⟨LC.mk ?_, ?_⟩
          · iterate 5 refine Fr.setCell ?_ (.inl Ha.out.size) _
            exact Hb.out
          clear y1 y2
          have HC := Lib.hid (((((HZ'.out.set_ 0 (.int .i64 k1)).set_ 1 (.int .i64 p1)).set_ 2 (.int .u8 c1)).set_ 3 (.int .i64 cl1)).set_ 4 (.int .i64 sq1))
          refine wpL_step 12 rfl (by kernel_rfl) (fun wc hc1 hc1' => ?_)
          have Hc1 := Lib.hid hc1
          have Hc2 := Lib.hid hc1'
          clear hc1 hc1'
          go_wp2_with fail
          refine ⟨LC.mk Hc1.out, ?_⟩
          refine wpL_done (by kernel_rfl) (fun w2 hc hc' => ?_)
          have HB2 : Hid (Blk w2 wa.heap.size 26 #[.int .i64 k1, .int .i64 p1, .int .u8 c1, .int .i64 cl1, .int .i64 sq1]) := Lib.hid (by have := ((HC.out.fr Hc2.out fun h => h).fr hc' fun h => h); simpa using this)
          have HF2 := Lib.hid hc
          clear Hb HZ' HC Hc1 Hc2 hc hc'
          have HT2 := Lib.hid (HT.out.frn HF2.out)
          have u1 := Hc.out _ HT2.out
          have u3 := fun n => Hlv.out _ (HT2.out.frn ((Fr.refl _ _).drewN n))
          have u4 : ∀ i, w2.cell? ⟨w.heap.size, i, none⟩ = (#[.int .i64 rev, .int .i64 k, .int .i64 p, .int .u8 c, .int .i64 cl, .int .i64 sq] : Array Value)[i]? := fun i => Blk.cell (HTd.out.fr HF2.out fun h => h) i
          have u5 : ∀ i, w2.cell? ⟨w.heap.size + 1, i, none⟩ = (#[.int .i64 cl, .int .i64 sq] : Array Value)[i]? := fun i => Blk.cell (HNm.out.fr HF2.out fun h => h) i
          have u6 : ∀ i, w2.cell? ⟨wa.heap.size, i, none⟩ = (#[.int .i64 k1, .int .i64 p1, .int .u8 c1, .int .i64 cl1, .int .i64 sq1] : Array Value)[i]? := fun i => Blk.cell HB2.out i
          go_wp2
          go_quiet (fail)
          clear u3
          go_wp2
          have HT8 := Lib.hid (HT2.out.frn ((Fr.refl _ _).drewN nq))
          have HTd8 := Lib.hid ((HTd.out.fr HF2.out fun h => h).drewN nq)
          have HNm8 := Lib.hid ((HNm.out.fr HF2.out fun h => h).drewN nq)
          have HF8 := Lib.hid ((HF.out.trans' HF2.out).drewN nq)
          clear u1 u4 u5 u6 HB2 HF2 HT2
          generalize w2.drewN nq = X8 at *
          have z1 := fun x : Later X8 => Hc.out _ (HT8.out.frn x.fr)
          have z2 := fun x : Later X8 => Hle.out _ (HT8.out.frn x.fr)
          have z3 : ∀ (x : Later X8) i, x.w.cell? ⟨w.heap.size, i, none⟩ = (#[.int .i64 rev, .int .i64 k, .int .i64 p, .int .u8 c, .int .i64 cl, .int .i64 sq] : Array Value)[i]? := fun x i => Blk.cell (HTd8.out.fr x.fr fun h => h) i
          have z4 : ∀ (x : Later X8) i, x.w.cell? ⟨w.heap.size + 1, i, none⟩ = (#[.int .i64 cl, .int .i64 sq] : Array Value)[i]? := fun x i => Blk.cell (HNm8.out.fr x.fr fun h => h) i
          refine wp_region_L (by kernel_rfl) ?_
          refine wpL_heads 9 0 3 (by kernel_rfl) (by kernel_rfl) ?_ (by kernel_rfl)
          simp only [List.take_succ_cons, List.take_zero, List.drop_zero]
          repeat (go_big_quiet_step (fail))
          refine wpQuiet_nil ?_
          clear z1 z2 z3 z4
          refine wpL_step 9 rfl (by kernel_rfl) (fun wa ha ha' => ?_)
          have Ha := Lib.hid ha
          clear ha ha'
          go_wp2_with fail
          refine ⟨LC.mk (Ha.out.alloc _), ?_⟩
          have hz := Blk.new wa 67 #[.int .i64 0, .int .i64 0, .int .i64 0, .int .u8 0, .int .i64 0, .int .i64 0]
          have HZ := Lib.hid hz
          refine wpL_step 10 rfl (by kernel_rfl) (fun wb hb hb' => ?_)
          have hz' := HZ.out.fr hb' fun h => h
          have HZ' := Lib.hid hz'
          have Hb := Lib.hid hb
          have y1 := fun i => Blk.cell hz' i
          have y2 := fun i => Blk.frozen hz' i
          clear hz hz' HZ hb hb'
          go_wp2_with fail
          refine ⟨LC.mk ?_, ?_⟩
          · iterate 6 refine Fr.setCell ?_ (.inl Ha.out.size) _
            exact Hb.out
          clear y1 y2
          have HC := Lib.hid ((((((HZ'.out.set_ 0 (.int .i64 t6)).set_ 1 (.int .i64 k6)).set_ 2 (.int .i64 p6)).set_ 3 (.int .u8 c6)).set_ 4 (.int .i64 cl6)).set_ 5 (.int .i64 sq6))
          refine wpL_step 11 rfl (by kernel_rfl) (fun wc hc1 hc1' => ?_)
          have Hc1 := Lib.hid hc1
          have Hc2 := Lib.hid hc1'
          clear hc1 hc1'
          go_wp2_with fail
          refine ⟨LC.mk Hc1.out, ?_⟩
          refine wpL_done (by kernel_rfl) (fun w9 hc hc' => ?_)
          have HB9 : Hid (Blk w9 wa.heap.size 67 #[.int .i64 t6, .int .i64 k6, .int .i64 p6, .int .u8 c6, .int .i64 cl6, .int .i64 sq6]) := Lib.hid (by have := ((HC.out.fr Hc2.out fun h => h).fr hc' fun h => h); simpa using this)
          have HF9 := Lib.hid hc
          clear Hb HZ' HC Hc1 Hc2 hc hc'
          have u4 : ∀ i, w9.cell? ⟨w.heap.size, i, none⟩ = (#[.int .i64 rev, .int .i64 k, .int .i64 p, .int .u8 c, .int .i64 cl, .int .i64 sq] : Array Value)[i]? := fun i => Blk.cell (HTd8.out.fr HF9.out fun h => h) i
          have u6 : ∀ i, w9.cell? ⟨wa.heap.size, i, none⟩ = (#[.int .i64 t6, .int .i64 k6, .int .i64 p6, .int .u8 c6, .int .i64 cl6, .int .i64 sq6] : Array Value)[i]? := fun i => Blk.cell HB9.out i
          have HG := Lib.hid (HF8.out.trans' HF9.out)
          go_wp2
          go_ret
          exact ⟨retB (by rw [HE.out]; simp), HG.out⟩
        ·
          go_enter Tryz.func64, Tryz.ntmps64
          go_wp2
          rw [← HX.out]
          have z1 := fun x : Later X => Hc.out _ (HT.out.frn x.fr)
          have z2 := fun x : Later X => Hlr.out _ (HT.out.frn x.fr)
          have z3 : ∀ (x : Later X) i, x.w.cell? ⟨w.heap.size, i, none⟩ = (#[.int .i64 rev, .int .i64 k, .int .i64 p, .int .u8 c, .int .i64 cl, .int .i64 sq] : Array Value)[i]? := fun x i => Blk.cell (HTd.out.fr x.fr fun h => h) i
          have z4 : ∀ (x : Later X) i, x.w.cell? ⟨w.heap.size + 1, i, none⟩ = (#[.int .i64 cl, .int .i64 sq] : Array Value)[i]? := fun x i => Blk.cell (HNm.out.fr x.fr fun h => h) i
          refine wp_region_L (by kernel_rfl) ?_
          refine wpL_heads 10 0 3 (by kernel_rfl) (by kernel_rfl) ?_ (by kernel_rfl)
          simp only [List.take_succ_cons, List.take_zero, List.drop_zero]
          repeat (go_big_quiet_step (fail))
          refine wpQuiet_nil ?_
          clear z1 z2 z3 z4
          refine wpL_step 10 rfl (by kernel_rfl) (fun wa ha ha' => ?_)
          have Ha := Lib.hid ha
          clear ha ha'
          go_wp2_with fail
          refine ⟨LC.mk (Ha.out.alloc _), ?_⟩
          have hz := Blk.new wa 26 #[.int .i64 0, .int .i64 0, .int .u8 0, .int .i64 0, .int .i64 0]
          have HZ := Lib.hid hz
          refine wpL_step 11 rfl (by kernel_rfl) (fun wb hb hb' => ?_)
          have hz' := HZ.out.fr hb' fun h => h
          have HZ' := Lib.hid hz'
          have Hb := Lib.hid hb
          have y1 := fun i => Blk.cell hz' i
          have y2 := fun i => Blk.frozen hz' i
          clear hz hz' HZ hb hb'
          go_wp2_with fail
          refine ⟨LC.mk ?_, ?_⟩
          · iterate 5 refine Fr.setCell ?_ (.inl Ha.out.size) _
            exact Hb.out
          clear y1 y2
          have HC := Lib.hid (((((HZ'.out.set_ 0 (.int .i64 k1)).set_ 1 (.int .i64 p1)).set_ 2 (.int .u8 c1)).set_ 3 (.int .i64 cl1)).set_ 4 (.int .i64 sq1))
          refine wpL_step 12 rfl (by kernel_rfl) (fun wc hc1 hc1' => ?_)
          have Hc1 := Lib.hid hc1
          have Hc2 := Lib.hid hc1'
          clear hc1 hc1'
          go_wp2_with fail
          refine ⟨LC.mk Hc1.out, ?_⟩
          refine wpL_done (by kernel_rfl) (fun w2 hc hc' => ?_)
          have HB2 : Hid (Blk w2 wa.heap.size 26 #[.int .i64 k1, .int .i64 p1, .int .u8 c1, .int .i64 cl1, .int .i64 sq1]) := Lib.hid (by have := ((HC.out.fr Hc2.out fun h => h).fr hc' fun h => h); simpa using this)
          have HF2 := Lib.hid hc
          clear Hb HZ' HC Hc1 Hc2 hc hc'
          have HT2 := Lib.hid (HT.out.frn HF2.out)
          have u1 := Hc.out _ HT2.out
          have u3 := fun n => Hlv.out _ (HT2.out.frn ((Fr.refl _ _).drewN n))
          have u4 : ∀ i, w2.cell? ⟨w.heap.size, i, none⟩ = (#[.int .i64 rev, .int .i64 k, .int .i64 p, .int .u8 c, .int .i64 cl, .int .i64 sq] : Array Value)[i]? := fun i => Blk.cell (HTd.out.fr HF2.out fun h => h) i
          have u5 : ∀ i, w2.cell? ⟨w.heap.size + 1, i, none⟩ = (#[.int .i64 cl, .int .i64 sq] : Array Value)[i]? := fun i => Blk.cell (HNm.out.fr HF2.out fun h => h) i
          have u6 : ∀ i, w2.cell? ⟨wa.heap.size, i, none⟩ = (#[.int .i64 k1, .int .i64 p1, .int .u8 c1, .int .i64 cl1, .int .i64 sq1] : Array Value)[i]? := fun i => Blk.cell HB2.out i
          go_wp2
          go_quiet (fail)
          clear u3
          go_wp2
          have HT8 := Lib.hid (HT2.out.frn ((Fr.refl _ _).drewN nq))
          have HTd8 := Lib.hid ((HTd.out.fr HF2.out fun h => h).drewN nq)
          have HNm8 := Lib.hid ((HNm.out.fr HF2.out fun h => h).drewN nq)
          have HF8 := Lib.hid ((HF.out.trans' HF2.out).drewN nq)
          clear u1 u4 u5 u6 HB2 HF2 HT2
          generalize w2.drewN nq = X8 at *
          have z1 := fun x : Later X8 => Hc.out _ (HT8.out.frn x.fr)
          have z2 := fun x : Later X8 => Hle.out _ (HT8.out.frn x.fr)
          have z3 : ∀ (x : Later X8) i, x.w.cell? ⟨w.heap.size, i, none⟩ = (#[.int .i64 rev, .int .i64 k, .int .i64 p, .int .u8 c, .int .i64 cl, .int .i64 sq] : Array Value)[i]? := fun x i => Blk.cell (HTd8.out.fr x.fr fun h => h) i
          have z4 : ∀ (x : Later X8) i, x.w.cell? ⟨w.heap.size + 1, i, none⟩ = (#[.int .i64 cl, .int .i64 sq] : Array Value)[i]? := fun x i => Blk.cell (HNm8.out.fr x.fr fun h => h) i
          refine wp_region_L (by kernel_rfl) ?_
          refine wpL_heads 9 0 3 (by kernel_rfl) (by kernel_rfl) ?_ (by kernel_rfl)
          simp only [List.take_succ_cons, List.take_zero, List.drop_zero]
          repeat (go_big_quiet_step (fail))
          refine wpQuiet_nil ?_
          clear z1 z2 z3 z4
          refine wpL_step 9 rfl (by kernel_rfl) (fun wa ha ha' => ?_)
          have Ha := Lib.hid ha
          clear ha ha'
          go_wp2_with fail
          refine ⟨LC.mk (Ha.out.alloc _), ?_⟩
          have hz := Blk.new wa 67 #[.int .i64 0, .int .i64 0, .int .i64 0, .int .u8 0, .int .i64 0, .int .i64 0]
          have HZ := Lib.hid hz
          refine wpL_step 10 rfl (by kernel_rfl) (fun wb hb hb' => ?_)
          have hz' := HZ.out.fr hb' fun h => h
          have HZ' := Lib.hid hz'
          have Hb := Lib.hid hb
          have y1 := fun i => Blk.cell hz' i
          have y2 := fun i => Blk.frozen hz' i
          clear hz hz' HZ hb hb'
          go_wp2_with fail
          refine ⟨LC.mk ?_, ?_⟩
          · iterate 6 refine Fr.setCell ?_ (.inl Ha.out.size) _
            exact Hb.out
          clear y1 y2
          have HC := Lib.hid ((((((HZ'.out.set_ 0 (.int .i64 t6)).set_ 1 (.int .i64 k6)).set_ 2 (.int .i64 p6)).set_ 3 (.int .u8 c6)).set_ 4 (.int .i64 cl6)).set_ 5 (.int .i64 sq6))
          refine wpL_step 11 rfl (by kernel_rfl) (fun wc hc1 hc1' => ?_)
          have Hc1 := Lib.hid hc1
          have Hc2 := Lib.hid hc1'
          clear hc1 hc1'
          go_wp2_with fail
          refine ⟨LC.mk Hc1.out, ?_⟩
          refine wpL_done (by kernel_rfl) (fun w9 hc hc' => ?_)
          have HB9 : Hid (Blk w9 wa.heap.size 67 #[.int .i64 t6, .int .i64 k6, .int .i64 p6, .int .u8 c6, .int .i64 cl6, .int .i64 sq6]) := Lib.hid (by have := ((HC.out.fr Hc2.out fun h => h).fr hc' fun h => h); simpa using this)
          have HF9 := Lib.hid hc
          clear Hb HZ' HC Hc1 Hc2 hc hc'
          have u4 : ∀ i, w9.cell? ⟨w.heap.size, i, none⟩ = (#[.int .i64 rev, .int .i64 k, .int .i64 p, .int .u8 c, .int .i64 cl, .int .i64 sq] : Array Value)[i]? := fun i => Blk.cell (HTd8.out.fr HF9.out fun h => h) i
          have u6 : ∀ i, w9.cell? ⟨wa.heap.size, i, none⟩ = (#[.int .i64 t6, .int .i64 k6, .int .i64 p6, .int .u8 c6, .int .i64 cl6, .int .i64 sq6] : Array Value)[i]? := fun i => Blk.cell HB9.out i
          have HG := Lib.hid (HF8.out.trans' HF9.out)
          go_wp2_with (go_at_call 97; refine (HT3.out _).mono ?_; rintro e1 w10 ⟨rfl, hf10⟩)
          go_ret
          exact ⟨retB (by rw [HE.out]; simp), HG.out.trans' hf10⟩
  · cases b1
    ·
      go_enter Tryz.func64, Tryz.ntmps64
      go_wp2
      rw [← HX.out]
      have z1 := fun x : Later X => Hc.out _ (HT.out.frn x.fr)
      have z2 := fun x : Later X => Hlr.out _ (HT.out.frn x.fr)
      have z3 : ∀ (x : Later X) i, x.w.cell? ⟨w.heap.size, i, none⟩ = (#[.int .i64 rev, .int .i64 k, .int .i64 p, .int .u8 c, .int .i64 cl, .int .i64 sq] : Array Value)[i]? := fun x i => Blk.cell (HTd.out.fr x.fr fun h => h) i
      have z4 : ∀ (x : Later X) i, x.w.cell? ⟨w.heap.size + 1, i, none⟩ = (#[.int .i64 cl, .int .i64 sq] : Array Value)[i]? := fun x i => Blk.cell (HNm.out.fr x.fr fun h => h) i
      refine wp_region_L (by kernel_rfl) ?_
      refine wpL_heads 10 0 3 (by kernel_rfl) (by kernel_rfl) ?_ (by kernel_rfl)
      simp only [List.take_succ_cons, List.take_zero, List.drop_zero]
      repeat (go_big_quiet_step (fail))
      refine wpQuiet_nil ?_
      clear z1 z2 z3 z4
      refine wpL_step 10 rfl (by kernel_rfl) (fun wa ha ha' => ?_)
      have Ha := Lib.hid ha
      clear ha ha'
      go_wp2_with fail
      refine ⟨LC.mk (Ha.out.alloc _), ?_⟩
      have hz := Blk.new wa 26 #[.int .i64 0, .int .i64 0, .int .u8 0, .int .i64 0, .int .i64 0]
      have HZ := Lib.hid hz
      refine wpL_step 11 rfl (by kernel_rfl) (fun wb hb hb' => ?_)
      have hz' := HZ.out.fr hb' fun h => h
      have HZ' := Lib.hid hz'
      have Hb := Lib.hid hb
      have y1 := fun i => Blk.cell hz' i
      have y2 := fun i => Blk.frozen hz' i
      clear hz hz' HZ hb hb'
      go_wp2_with fail
      refine ⟨LC.mk ?_, ?_⟩
      · iterate 5 refine Fr.setCell ?_ (.inl Ha.out.size) _
        exact Hb.out
      clear y1 y2
      have HC := Lib.hid (((((HZ'.out.set_ 0 (.int .i64 k1)).set_ 1 (.int .i64 p1)).set_ 2 (.int .u8 c1)).set_ 3 (.int .i64 cl1)).set_ 4 (.int .i64 sq1))
      refine wpL_step 12 rfl (by kernel_rfl) (fun wc hc1 hc1' => ?_)
      have Hc1 := Lib.hid hc1
      have Hc2 := Lib.hid hc1'
      clear hc1 hc1'
      go_wp2_with fail
      refine ⟨LC.mk Hc1.out, ?_⟩
      refine wpL_done (by kernel_rfl) (fun w2 hc hc' => ?_)
      have HB2 : Hid (Blk w2 wa.heap.size 26 #[.int .i64 k1, .int .i64 p1, .int .u8 c1, .int .i64 cl1, .int .i64 sq1]) := Lib.hid (by have := ((HC.out.fr Hc2.out fun h => h).fr hc' fun h => h); simpa using this)
      have HF2 := Lib.hid hc
      clear Hb HZ' HC Hc1 Hc2 hc hc'
      have HT2 := Lib.hid (HT.out.frn HF2.out)
      have u1 := Hc.out _ HT2.out
      have u3 := fun n => Hlv.out _ (HT2.out.frn ((Fr.refl _ _).drewN n))
      have u4 : ∀ i, w2.cell? ⟨w.heap.size, i, none⟩ = (#[.int .i64 rev, .int .i64 k, .int .i64 p, .int .u8 c, .int .i64 cl, .int .i64 sq] : Array Value)[i]? := fun i => Blk.cell (HTd.out.fr HF2.out fun h => h) i
      have u5 : ∀ i, w2.cell? ⟨w.heap.size + 1, i, none⟩ = (#[.int .i64 cl, .int .i64 sq] : Array Value)[i]? := fun i => Blk.cell (HNm.out.fr HF2.out fun h => h) i
      have u6 : ∀ i, w2.cell? ⟨wa.heap.size, i, none⟩ = (#[.int .i64 k1, .int .i64 p1, .int .u8 c1, .int .i64 cl1, .int .i64 sq1] : Array Value)[i]? := fun i => Blk.cell HB2.out i
      go_wp2
      go_ret
      exact ⟨retB (by rw [HE.out]; simp), HF.out.trans' HF2.out⟩
    ·
      cases s2
      ·
        cases s3
        ·
          go_enter Tryz.func64, Tryz.ntmps64
          go_wp2
          rw [← HX.out]
          have z1 := fun x : Later X => Hc.out _ (HT.out.frn x.fr)
          have z2 := fun x : Later X => Hlr.out _ (HT.out.frn x.fr)
          have z3 : ∀ (x : Later X) i, x.w.cell? ⟨w.heap.size, i, none⟩ = (#[.int .i64 rev, .int .i64 k, .int .i64 p, .int .u8 c, .int .i64 cl, .int .i64 sq] : Array Value)[i]? := fun x i => Blk.cell (HTd.out.fr x.fr fun h => h) i
          have z4 : ∀ (x : Later X) i, x.w.cell? ⟨w.heap.size + 1, i, none⟩ = (#[.int .i64 cl, .int .i64 sq] : Array Value)[i]? := fun x i => Blk.cell (HNm.out.fr x.fr fun h => h) i
          refine wp_region_L (by kernel_rfl) ?_
          refine wpL_heads 10 0 3 (by kernel_rfl) (by kernel_rfl) ?_ (by kernel_rfl)
          simp only [List.take_succ_cons, List.take_zero, List.drop_zero]
          repeat (go_big_quiet_step (fail))
          refine wpQuiet_nil ?_
          clear z1 z2 z3 z4
          refine wpL_step 10 rfl (by kernel_rfl) (fun wa ha ha' => ?_)
          have Ha := Lib.hid ha
          clear ha ha'
          go_wp2_with fail
          refine ⟨LC.mk (Ha.out.alloc _), ?_⟩
          have hz := Blk.new wa 26 #[.int .i64 0, .int .i64 0, .int .u8 0, .int .i64 0, .int .i64 0]
          have HZ := Lib.hid hz
          refine wpL_step 11 rfl (by kernel_rfl) (fun wb hb hb' => ?_)
          have hz' := HZ.out.fr hb' fun h => h
          have HZ' := Lib.hid hz'
          have Hb := Lib.hid hb
          have y1 := fun i => Blk.cell hz' i
          have y2 := fun i => Blk.frozen hz' i
          clear hz hz' HZ hb hb'
          go_wp2_with fail
          refine ⟨LC.mk ?_, ?_⟩
          · iterate 5 refine Fr.setCell ?_ (.inl Ha.out.size) _
            exact Hb.out
          clear y1 y2
          have HC := Lib.hid (((((HZ'.out.set_ 0 (.int .i64 k1)).set_ 1 (.int .i64 p1)).set_ 2 (.int .u8 c1)).set_ 3 (.int .i64 cl1)).set_ 4 (.int .i64 sq1))
          refine wpL_step 12 rfl (by kernel_rfl) (fun wc hc1 hc1' => ?_)
          have Hc1 := Lib.hid hc1
          have Hc2 := Lib.hid hc1'
          clear hc1 hc1'
          go_wp2_with fail
          refine ⟨LC.mk Hc1.out, ?_⟩
          refine wpL_done (by kernel_rfl) (fun w2 hc hc' => ?_)
          have HB2 : Hid (Blk w2 wa.heap.size 26 #[.int .i64 k1, .int .i64 p1, .int .u8 c1, .int .i64 cl1, .int .i64 sq1]) := Lib.hid (by have := ((HC.out.fr Hc2.out fun h => h).fr hc' fun h => h); simpa using this)
          have HF2 := Lib.hid hc
          clear Hb HZ' HC Hc1 Hc2 hc hc'
          have HT2 := Lib.hid (HT.out.frn HF2.out)
          have u1 := Hc.out _ HT2.out
          have u3 := fun n => Hlv.out _ (HT2.out.frn ((Fr.refl _ _).drewN n))
          have u4 : ∀ i, w2.cell? ⟨w.heap.size, i, none⟩ = (#[.int .i64 rev, .int .i64 k, .int .i64 p, .int .u8 c, .int .i64 cl, .int .i64 sq] : Array Value)[i]? := fun i => Blk.cell (HTd.out.fr HF2.out fun h => h) i
          have u5 : ∀ i, w2.cell? ⟨w.heap.size + 1, i, none⟩ = (#[.int .i64 cl, .int .i64 sq] : Array Value)[i]? := fun i => Blk.cell (HNm.out.fr HF2.out fun h => h) i
          have u6 : ∀ i, w2.cell? ⟨wa.heap.size, i, none⟩ = (#[.int .i64 k1, .int .i64 p1, .int .u8 c1, .int .i64 cl1, .int .i64 sq1] : Array Value)[i]? := fun i => Blk.cell HB2.out i
          go_wp2
          go_quiet (fail)
          clear u3
          go_wp2
          have HT8 := Lib.hid (HT2.out.frn ((Fr.refl _ _).drewN nq))
          have HTd8 := Lib.hid ((HTd.out.fr HF2.out fun h => h).drewN nq)
          have HNm8 := Lib.hid ((HNm.out.fr HF2.out fun h => h).drewN nq)
          have HF8 := Lib.hid ((HF.out.trans' HF2.out).drewN nq)
          clear u1 u4 u5 u6 HB2 HF2 HT2
          generalize w2.drewN nq = X8 at *
          have z1 := fun x : Later X8 => Hc.out _ (HT8.out.frn x.fr)
          have z2 := fun x : Later X8 => Hle.out _ (HT8.out.frn x.fr)
          have z3 : ∀ (x : Later X8) i, x.w.cell? ⟨w.heap.size, i, none⟩ = (#[.int .i64 rev, .int .i64 k, .int .i64 p, .int .u8 c, .int .i64 cl, .int .i64 sq] : Array Value)[i]? := fun x i => Blk.cell (HTd8.out.fr x.fr fun h => h) i
          have z4 : ∀ (x : Later X8) i, x.w.cell? ⟨w.heap.size + 1, i, none⟩ = (#[.int .i64 cl, .int .i64 sq] : Array Value)[i]? := fun x i => Blk.cell (HNm8.out.fr x.fr fun h => h) i
          refine wp_region_L (by kernel_rfl) ?_
          refine wpL_heads 9 0 3 (by kernel_rfl) (by kernel_rfl) ?_ (by kernel_rfl)
          simp only [List.take_succ_cons, List.take_zero, List.drop_zero]
          repeat (go_big_quiet_step (fail))
          refine wpQuiet_nil ?_
          clear z1 z2 z3 z4
          refine wpL_step 9 rfl (by kernel_rfl) (fun wa ha ha' => ?_)
          have Ha := Lib.hid ha
          clear ha ha'
          go_wp2_with fail
          refine ⟨LC.mk (Ha.out.alloc _), ?_⟩
          have hz := Blk.new wa 67 #[.int .i64 0, .int .i64 0, .int .i64 0, .int .u8 0, .int .i64 0, .int .i64 0]
          have HZ := Lib.hid hz
          refine wpL_step 10 rfl (by kernel_rfl) (fun wb hb hb' => ?_)
          have hz' := HZ.out.fr hb' fun h => h
          have HZ' := Lib.hid hz'
          have Hb := Lib.hid hb
          have y1 := fun i => Blk.cell hz' i
          have y2 := fun i => Blk.frozen hz' i
          clear hz hz' HZ hb hb'
          go_wp2_with fail
          refine ⟨LC.mk ?_, ?_⟩
          · iterate 6 refine Fr.setCell ?_ (.inl Ha.out.size) _
            exact Hb.out
          clear y1 y2
          have HC := Lib.hid ((((((HZ'.out.set_ 0 (.int .i64 t6)).set_ 1 (.int .i64 k6)).set_ 2 (.int .i64 p6)).set_ 3 (.int .u8 c6)).set_ 4 (.int .i64 cl6)).set_ 5 (.int .i64 sq6))
          refine wpL_step 11 rfl (by kernel_rfl) (fun wc hc1 hc1' => ?_)
          have Hc1 := Lib.hid hc1
          have Hc2 := Lib.hid hc1'
          clear hc1 hc1'
          go_wp2_with fail
          refine ⟨LC.mk Hc1.out, ?_⟩
          refine wpL_done (by kernel_rfl) (fun w9 hc hc' => ?_)
          have HB9 : Hid (Blk w9 wa.heap.size 67 #[.int .i64 t6, .int .i64 k6, .int .i64 p6, .int .u8 c6, .int .i64 cl6, .int .i64 sq6]) := Lib.hid (by have := ((HC.out.fr Hc2.out fun h => h).fr hc' fun h => h); simpa using this)
          have HF9 := Lib.hid hc
          clear Hb HZ' HC Hc1 Hc2 hc hc'
          have u4 : ∀ i, w9.cell? ⟨w.heap.size, i, none⟩ = (#[.int .i64 rev, .int .i64 k, .int .i64 p, .int .u8 c, .int .i64 cl, .int .i64 sq] : Array Value)[i]? := fun i => Blk.cell (HTd8.out.fr HF9.out fun h => h) i
          have u6 : ∀ i, w9.cell? ⟨wa.heap.size, i, none⟩ = (#[.int .i64 t6, .int .i64 k6, .int .i64 p6, .int .u8 c6, .int .i64 cl6, .int .i64 sq6] : Array Value)[i]? := fun i => Blk.cell HB9.out i
          have HG := Lib.hid (HF8.out.trans' HF9.out)
          go_wp2
          go_ret
          exact ⟨retB (by rw [HE.out]; simp), HG.out⟩
        ·
          go_enter Tryz.func64, Tryz.ntmps64
          go_wp2
          rw [← HX.out]
          have z1 := fun x : Later X => Hc.out _ (HT.out.frn x.fr)
          have z2 := fun x : Later X => Hlr.out _ (HT.out.frn x.fr)
          have z3 : ∀ (x : Later X) i, x.w.cell? ⟨w.heap.size, i, none⟩ = (#[.int .i64 rev, .int .i64 k, .int .i64 p, .int .u8 c, .int .i64 cl, .int .i64 sq] : Array Value)[i]? := fun x i => Blk.cell (HTd.out.fr x.fr fun h => h) i
          have z4 : ∀ (x : Later X) i, x.w.cell? ⟨w.heap.size + 1, i, none⟩ = (#[.int .i64 cl, .int .i64 sq] : Array Value)[i]? := fun x i => Blk.cell (HNm.out.fr x.fr fun h => h) i
          refine wp_region_L (by kernel_rfl) ?_
          refine wpL_heads 10 0 3 (by kernel_rfl) (by kernel_rfl) ?_ (by kernel_rfl)
          simp only [List.take_succ_cons, List.take_zero, List.drop_zero]
          repeat (go_big_quiet_step (fail))
          refine wpQuiet_nil ?_
          clear z1 z2 z3 z4
          refine wpL_step 10 rfl (by kernel_rfl) (fun wa ha ha' => ?_)
          have Ha := Lib.hid ha
          clear ha ha'
          go_wp2_with fail
          refine ⟨LC.mk (Ha.out.alloc _), ?_⟩
          have hz := Blk.new wa 26 #[.int .i64 0, .int .i64 0, .int .u8 0, .int .i64 0, .int .i64 0]
          have HZ := Lib.hid hz
          refine wpL_step 11 rfl (by kernel_rfl) (fun wb hb hb' => ?_)
          have hz' := HZ.out.fr hb' fun h => h
          have HZ' := Lib.hid hz'
          have Hb := Lib.hid hb
          have y1 := fun i => Blk.cell hz' i
          have y2 := fun i => Blk.frozen hz' i
          clear hz hz' HZ hb hb'
          go_wp2_with fail
          refine ⟨LC.mk ?_, ?_⟩
          · iterate 5 refine Fr.setCell ?_ (.inl Ha.out.size) _
            exact Hb.out
          clear y1 y2
          have HC := Lib.hid (((((HZ'.out.set_ 0 (.int .i64 k1)).set_ 1 (.int .i64 p1)).set_ 2 (.int .u8 c1)).set_ 3 (.int .i64 cl1)).set_ 4 (.int .i64 sq1))
          refine wpL_step 12 rfl (by kernel_rfl) (fun wc hc1 hc1' => ?_)
          have Hc1 := Lib.hid hc1
          have Hc2 := Lib.hid hc1'
          clear hc1 hc1'
          go_wp2_with fail
          refine ⟨LC.mk Hc1.out, ?_⟩
          refine wpL_done (by kernel_rfl) (fun w2 hc hc' => ?_)
          have HB2 : Hid (Blk w2 wa.heap.size 26 #[.int .i64 k1, .int .i64 p1, .int .u8 c1, .int .i64 cl1, .int .i64 sq1]) := Lib.hid (by have := ((HC.out.fr Hc2.out fun h => h).fr hc' fun h => h); simpa using this)
          have HF2 := Lib.hid hc
          clear Hb HZ' HC Hc1 Hc2 hc hc'
          have HT2 := Lib.hid (HT.out.frn HF2.out)
          have u1 := Hc.out _ HT2.out
          have u3 := fun n => Hlv.out _ (HT2.out.frn ((Fr.refl _ _).drewN n))
          have u4 : ∀ i, w2.cell? ⟨w.heap.size, i, none⟩ = (#[.int .i64 rev, .int .i64 k, .int .i64 p, .int .u8 c, .int .i64 cl, .int .i64 sq] : Array Value)[i]? := fun i => Blk.cell (HTd.out.fr HF2.out fun h => h) i
          have u5 : ∀ i, w2.cell? ⟨w.heap.size + 1, i, none⟩ = (#[.int .i64 cl, .int .i64 sq] : Array Value)[i]? := fun i => Blk.cell (HNm.out.fr HF2.out fun h => h) i
          have u6 : ∀ i, w2.cell? ⟨wa.heap.size, i, none⟩ = (#[.int .i64 k1, .int .i64 p1, .int .u8 c1, .int .i64 cl1, .int .i64 sq1] : Array Value)[i]? := fun i => Blk.cell HB2.out i
          go_wp2
          go_quiet (fail)
          clear u3
          go_wp2
          have HT8 := Lib.hid (HT2.out.frn ((Fr.refl _ _).drewN nq))
          have HTd8 := Lib.hid ((HTd.out.fr HF2.out fun h => h).drewN nq)
          have HNm8 := Lib.hid ((HNm.out.fr HF2.out fun h => h).drewN nq)
          have HF8 := Lib.hid ((HF.out.trans' HF2.out).drewN nq)
          clear u1 u4 u5 u6 HB2 HF2 HT2
          generalize w2.drewN nq = X8 at *
          have z1 := fun x : Later X8 => Hc.out _ (HT8.out.frn x.fr)
          have z2 := fun x : Later X8 => Hle.out _ (HT8.out.frn x.fr)
          have z3 : ∀ (x : Later X8) i, x.w.cell? ⟨w.heap.size, i, none⟩ = (#[.int .i64 rev, .int .i64 k, .int .i64 p, .int .u8 c, .int .i64 cl, .int .i64 sq] : Array Value)[i]? := fun x i => Blk.cell (HTd8.out.fr x.fr fun h => h) i
          have z4 : ∀ (x : Later X8) i, x.w.cell? ⟨w.heap.size + 1, i, none⟩ = (#[.int .i64 cl, .int .i64 sq] : Array Value)[i]? := fun x i => Blk.cell (HNm8.out.fr x.fr fun h => h) i
          refine wp_region_L (by kernel_rfl) ?_
          refine wpL_heads 9 0 3 (by kernel_rfl) (by kernel_rfl) ?_ (by kernel_rfl)
          simp only [List.take_succ_cons, List.take_zero, List.drop_zero]
          repeat (go_big_quiet_step (fail))
          refine wpQuiet_nil ?_
          clear z1 z2 z3 z4
          refine wpL_step 9 rfl (by kernel_rfl) (fun wa ha ha' => ?_)
          have Ha := Lib.hid ha
          clear ha ha'
          go_wp2_with fail
          refine ⟨LC.mk (Ha.out.alloc _), ?_⟩
          have hz := Blk.new wa 67 #[.int .i64 0, .int .i64 0, .int .i64 0, .int .u8 0, .int .i64 0, .int .i64 0]
          have HZ := Lib.hid hz
          refine wpL_step 10 rfl (by kernel_rfl) (fun wb hb hb' => ?_)
          have hz' := HZ.out.fr hb' fun h => h
          have HZ' := Lib.hid hz'
          have Hb := Lib.hid hb
          have y1 := fun i => Blk.cell hz' i
          have y2 := fun i => Blk.frozen hz' i
          clear hz hz' HZ hb hb'
          go_wp2_with fail
          refine ⟨LC.mk ?_, ?_⟩
          · iterate 6 refine Fr.setCell ?_ (.inl Ha.out.size) _
            exact Hb.out
          clear y1 y2
          have HC := Lib.hid ((((((HZ'.out.set_ 0 (.int .i64 t6)).set_ 1 (.int .i64 k6)).set_ 2 (.int .i64 p6)).set_ 3 (.int .u8 c6)).set_ 4 (.int .i64 cl6)).set_ 5 (.int .i64 sq6))
          refine wpL_step 11 rfl (by kernel_rfl) (fun wc hc1 hc1' => ?_)
          have Hc1 := Lib.hid hc1
          have Hc2 := Lib.hid hc1'
          clear hc1 hc1'
          go_wp2_with fail
          refine ⟨LC.mk Hc1.out, ?_⟩
          refine wpL_done (by kernel_rfl) (fun w9 hc hc' => ?_)
          have HB9 : Hid (Blk w9 wa.heap.size 67 #[.int .i64 t6, .int .i64 k6, .int .i64 p6, .int .u8 c6, .int .i64 cl6, .int .i64 sq6]) := Lib.hid (by have := ((HC.out.fr Hc2.out fun h => h).fr hc' fun h => h); simpa using this)
          have HF9 := Lib.hid hc
          clear Hb HZ' HC Hc1 Hc2 hc hc'
          have u4 : ∀ i, w9.cell? ⟨w.heap.size, i, none⟩ = (#[.int .i64 rev, .int .i64 k, .int .i64 p, .int .u8 c, .int .i64 cl, .int .i64 sq] : Array Value)[i]? := fun i => Blk.cell (HTd8.out.fr HF9.out fun h => h) i
          have u6 : ∀ i, w9.cell? ⟨wa.heap.size, i, none⟩ = (#[.int .i64 t6, .int .i64 k6, .int .i64 p6, .int .u8 c6, .int .i64 cl6, .int .i64 sq6] : Array Value)[i]? := fun i => Blk.cell HB9.out i
          have HG := Lib.hid (HF8.out.trans' HF9.out)
          go_wp2_with (go_at_call 97; refine (HT3.out _).mono ?_; rintro e1 w10 ⟨rfl, hf10⟩)
          go_ret
          exact ⟨retB (by rw [HE.out]; simp), HG.out.trans' hf10⟩
      · cases b2
        ·
          go_enter Tryz.func64, Tryz.ntmps64
          go_wp2
          rw [← HX.out]
          have z1 := fun x : Later X => Hc.out _ (HT.out.frn x.fr)
          have z2 := fun x : Later X => Hlr.out _ (HT.out.frn x.fr)
          have z3 : ∀ (x : Later X) i, x.w.cell? ⟨w.heap.size, i, none⟩ = (#[.int .i64 rev, .int .i64 k, .int .i64 p, .int .u8 c, .int .i64 cl, .int .i64 sq] : Array Value)[i]? := fun x i => Blk.cell (HTd.out.fr x.fr fun h => h) i
          have z4 : ∀ (x : Later X) i, x.w.cell? ⟨w.heap.size + 1, i, none⟩ = (#[.int .i64 cl, .int .i64 sq] : Array Value)[i]? := fun x i => Blk.cell (HNm.out.fr x.fr fun h => h) i
          refine wp_region_L (by kernel_rfl) ?_
          refine wpL_heads 10 0 3 (by kernel_rfl) (by kernel_rfl) ?_ (by kernel_rfl)
          simp only [List.take_succ_cons, List.take_zero, List.drop_zero]
          repeat (go_big_quiet_step (fail))
          refine wpQuiet_nil ?_
          clear z1 z2 z3 z4
          refine wpL_step 10 rfl (by kernel_rfl) (fun wa ha ha' => ?_)
          have Ha := Lib.hid ha
          clear ha ha'
          go_wp2_with fail
          refine ⟨LC.mk (Ha.out.alloc _), ?_⟩
          have hz := Blk.new wa 26 #[.int .i64 0, .int .i64 0, .int .u8 0, .int .i64 0, .int .i64 0]
          have HZ := Lib.hid hz
          refine wpL_step 11 rfl (by kernel_rfl) (fun wb hb hb' => ?_)
          have hz' := HZ.out.fr hb' fun h => h
          have HZ' := Lib.hid hz'
          have Hb := Lib.hid hb
          have y1 := fun i => Blk.cell hz' i
          have y2 := fun i => Blk.frozen hz' i
          clear hz hz' HZ hb hb'
          go_wp2_with fail
          refine ⟨LC.mk ?_, ?_⟩
          · iterate 5 refine Fr.setCell ?_ (.inl Ha.out.size) _
            exact Hb.out
          clear y1 y2
          have HC := Lib.hid (((((HZ'.out.set_ 0 (.int .i64 k1)).set_ 1 (.int .i64 p1)).set_ 2 (.int .u8 c1)).set_ 3 (.int .i64 cl1)).set_ 4 (.int .i64 sq1))
          refine wpL_step 12 rfl (by kernel_rfl) (fun wc hc1 hc1' => ?_)
          have Hc1 := Lib.hid hc1
          have Hc2 := Lib.hid hc1'
          clear hc1 hc1'
          go_wp2_with fail
          refine ⟨LC.mk Hc1.out, ?_⟩
          refine wpL_done (by kernel_rfl) (fun w2 hc hc' => ?_)
          have HB2 : Hid (Blk w2 wa.heap.size 26 #[.int .i64 k1, .int .i64 p1, .int .u8 c1, .int .i64 cl1, .int .i64 sq1]) := Lib.hid (by have := ((HC.out.fr Hc2.out fun h => h).fr hc' fun h => h); simpa using this)
          have HF2 := Lib.hid hc
          clear Hb HZ' HC Hc1 Hc2 hc hc'
          have HT2 := Lib.hid (HT.out.frn HF2.out)
          have u1 := Hc.out _ HT2.out
          have u3 := fun n => Hlv.out _ (HT2.out.frn ((Fr.refl _ _).drewN n))
          have u4 : ∀ i, w2.cell? ⟨w.heap.size, i, none⟩ = (#[.int .i64 rev, .int .i64 k, .int .i64 p, .int .u8 c, .int .i64 cl, .int .i64 sq] : Array Value)[i]? := fun i => Blk.cell (HTd.out.fr HF2.out fun h => h) i
          have u5 : ∀ i, w2.cell? ⟨w.heap.size + 1, i, none⟩ = (#[.int .i64 cl, .int .i64 sq] : Array Value)[i]? := fun i => Blk.cell (HNm.out.fr HF2.out fun h => h) i
          have u6 : ∀ i, w2.cell? ⟨wa.heap.size, i, none⟩ = (#[.int .i64 k1, .int .i64 p1, .int .u8 c1, .int .i64 cl1, .int .i64 sq1] : Array Value)[i]? := fun i => Blk.cell HB2.out i
          go_wp2
          go_quiet (fail)
          clear u3
          go_wp2
          go_ret
          exact ⟨retB (by rw [HE.out]; simp), (HF.out.trans' HF2.out).drewN _⟩
        ·
          cases s3
          ·
            go_enter Tryz.func64, Tryz.ntmps64
            go_wp2
            rw [← HX.out]
            have z1 := fun x : Later X => Hc.out _ (HT.out.frn x.fr)
            have z2 := fun x : Later X => Hlr.out _ (HT.out.frn x.fr)
            have z3 : ∀ (x : Later X) i, x.w.cell? ⟨w.heap.size, i, none⟩ = (#[.int .i64 rev, .int .i64 k, .int .i64 p, .int .u8 c, .int .i64 cl, .int .i64 sq] : Array Value)[i]? := fun x i => Blk.cell (HTd.out.fr x.fr fun h => h) i
            have z4 : ∀ (x : Later X) i, x.w.cell? ⟨w.heap.size + 1, i, none⟩ = (#[.int .i64 cl, .int .i64 sq] : Array Value)[i]? := fun x i => Blk.cell (HNm.out.fr x.fr fun h => h) i
            refine wp_region_L (by kernel_rfl) ?_
            refine wpL_heads 10 0 3 (by kernel_rfl) (by kernel_rfl) ?_ (by kernel_rfl)
            simp only [List.take_succ_cons, List.take_zero, List.drop_zero]
            repeat (go_big_quiet_step (fail))
            refine wpQuiet_nil ?_
            clear z1 z2 z3 z4
            refine wpL_step 10 rfl (by kernel_rfl) (fun wa ha ha' => ?_)
            have Ha := Lib.hid ha
            clear ha ha'
            go_wp2_with fail
            refine ⟨LC.mk (Ha.out.alloc _), ?_⟩
            have hz := Blk.new wa 26 #[.int .i64 0, .int .i64 0, .int .u8 0, .int .i64 0, .int .i64 0]
            have HZ := Lib.hid hz
            refine wpL_step 11 rfl (by kernel_rfl) (fun wb hb hb' => ?_)
            have hz' := HZ.out.fr hb' fun h => h
            have HZ' := Lib.hid hz'
            have Hb := Lib.hid hb
            have y1 := fun i => Blk.cell hz' i
            have y2 := fun i => Blk.frozen hz' i
            clear hz hz' HZ hb hb'
            go_wp2_with fail
            refine ⟨LC.mk ?_, ?_⟩
            · iterate 5 refine Fr.setCell ?_ (.inl Ha.out.size) _
              exact Hb.out
            clear y1 y2
            have HC := Lib.hid (((((HZ'.out.set_ 0 (.int .i64 k1)).set_ 1 (.int .i64 p1)).set_ 2 (.int .u8 c1)).set_ 3 (.int .i64 cl1)).set_ 4 (.int .i64 sq1))
            refine wpL_step 12 rfl (by kernel_rfl) (fun wc hc1 hc1' => ?_)
            have Hc1 := Lib.hid hc1
            have Hc2 := Lib.hid hc1'
            clear hc1 hc1'
            go_wp2_with fail
            refine ⟨LC.mk Hc1.out, ?_⟩
            refine wpL_done (by kernel_rfl) (fun w2 hc hc' => ?_)
            have HB2 : Hid (Blk w2 wa.heap.size 26 #[.int .i64 k1, .int .i64 p1, .int .u8 c1, .int .i64 cl1, .int .i64 sq1]) := Lib.hid (by have := ((HC.out.fr Hc2.out fun h => h).fr hc' fun h => h); simpa using this)
            have HF2 := Lib.hid hc
            clear Hb HZ' HC Hc1 Hc2 hc hc'
            have HT2 := Lib.hid (HT.out.frn HF2.out)
            have u1 := Hc.out _ HT2.out
            have u3 := fun n => Hlv.out _ (HT2.out.frn ((Fr.refl _ _).drewN n))
            have u4 : ∀ i, w2.cell? ⟨w.heap.size, i, none⟩ = (#[.int .i64 rev, .int .i64 k, .int .i64 p, .int .u8 c, .int .i64 cl, .int .i64 sq] : Array Value)[i]? := fun i => Blk.cell (HTd.out.fr HF2.out fun h => h) i
            have u5 : ∀ i, w2.cell? ⟨w.heap.size + 1, i, none⟩ = (#[.int .i64 cl, .int .i64 sq] : Array Value)[i]? := fun i => Blk.cell (HNm.out.fr HF2.out fun h => h) i
            have u6 : ∀ i, w2.cell? ⟨wa.heap.size, i, none⟩ = (#[.int .i64 k1, .int .i64 p1, .int .u8 c1, .int .i64 cl1, .int .i64 sq1] : Array Value)[i]? := fun i => Blk.cell HB2.out i
            go_wp2
            go_quiet (fail)
            clear u3
            go_wp2
            have HT8 := Lib.hid (HT2.out.frn ((Fr.refl _ _).drewN nq))
            have HTd8 := Lib.hid ((HTd.out.fr HF2.out fun h => h).drewN nq)
            have HNm8 := Lib.hid ((HNm.out.fr HF2.out fun h => h).drewN nq)
            have HF8 := Lib.hid ((HF.out.trans' HF2.out).drewN nq)
            clear u1 u4 u5 u6 HB2 HF2 HT2
            generalize w2.drewN nq = X8 at *
            have z1 := fun x : Later X8 => Hc.out _ (HT8.out.frn x.fr)
            have z2 := fun x : Later X8 => Hle.out _ (HT8.out.frn x.fr)
            have z3 : ∀ (x : Later X8) i, x.w.cell? ⟨w.heap.size, i, none⟩ = (#[.int .i64 rev, .int .i64 k, .int .i64 p, .int .u8 c, .int .i64 cl, .int .i64 sq] : Array Value)[i]? := fun x i => Blk.cell (HTd8.out.fr x.fr fun h => h) i
            have z4 : ∀ (x : Later X8) i, x.w.cell? ⟨w.heap.size + 1, i, none⟩ = (#[.int .i64 cl, .int .i64 sq] : Array Value)[i]? := fun x i => Blk.cell (HNm8.out.fr x.fr fun h => h) i
            refine wp_region_L (by kernel_rfl) ?_
            refine wpL_heads 9 0 3 (by kernel_rfl) (by kernel_rfl) ?_ (by kernel_rfl)
            simp only [List.take_succ_cons, List.take_zero, List.drop_zero]
            repeat (go_big_quiet_step (fail))
            refine wpQuiet_nil ?_
            clear z1 z2 z3 z4
            refine wpL_step 9 rfl (by kernel_rfl) (fun wa ha ha' => ?_)
            have Ha := Lib.hid ha
            clear ha ha'
            go_wp2_with fail
            refine ⟨LC.mk (Ha.out.alloc _), ?_⟩
            have hz := Blk.new wa 67 #[.int .i64 0, .int .i64 0, .int .i64 0, .int .u8 0, .int .i64 0, .int .i64 0]
            have HZ := Lib.hid hz
            refine wpL_step 10 rfl (by kernel_rfl) (fun wb hb hb' => ?_)
            have hz' := HZ.out.fr hb' fun h => h
            have HZ' := Lib.hid hz'
            have Hb := Lib.hid hb
            have y1 := fun i => Blk.cell hz' i
            have y2 := fun i => Blk.frozen hz' i
            clear hz hz' HZ hb hb'
            go_wp2_with fail
            refine ⟨LC.mk ?_, ?_⟩
            · iterate 6 refine Fr.setCell ?_ (.inl Ha.out.size) _
              exact Hb.out
            clear y1 y2
            have HC := Lib.hid ((((((HZ'.out.set_ 0 (.int .i64 t6)).set_ 1 (.int .i64 k6)).set_ 2 (.int .i64 p6)).set_ 3 (.int .u8 c6)).set_ 4 (.int .i64 cl6)).set_ 5 (.int .i64 sq6))
            refine wpL_step 11 rfl (by kernel_rfl) (fun wc hc1 hc1' => ?_)
            have Hc1 := Lib.hid hc1
            have Hc2 := Lib.hid hc1'
            clear hc1 hc1'
            go_wp2_with fail
            refine ⟨LC.mk Hc1.out, ?_⟩
            refine wpL_done (by kernel_rfl) (fun w9 hc hc' => ?_)
            have HB9 : Hid (Blk w9 wa.heap.size 67 #[.int .i64 t6, .int .i64 k6, .int .i64 p6, .int .u8 c6, .int .i64 cl6, .int .i64 sq6]) := Lib.hid (by have := ((HC.out.fr Hc2.out fun h => h).fr hc' fun h => h); simpa using this)
            have HF9 := Lib.hid hc
            clear Hb HZ' HC Hc1 Hc2 hc hc'
            have u4 : ∀ i, w9.cell? ⟨w.heap.size, i, none⟩ = (#[.int .i64 rev, .int .i64 k, .int .i64 p, .int .u8 c, .int .i64 cl, .int .i64 sq] : Array Value)[i]? := fun i => Blk.cell (HTd8.out.fr HF9.out fun h => h) i
            have u6 : ∀ i, w9.cell? ⟨wa.heap.size, i, none⟩ = (#[.int .i64 t6, .int .i64 k6, .int .i64 p6, .int .u8 c6, .int .i64 cl6, .int .i64 sq6] : Array Value)[i]? := fun i => Blk.cell HB9.out i
            have HG := Lib.hid (HF8.out.trans' HF9.out)
            go_wp2
            go_ret
            exact ⟨retB (by rw [HE.out]; simp), HG.out⟩
          ·
            go_enter Tryz.func64, Tryz.ntmps64
            go_wp2
            rw [← HX.out]
            have z1 := fun x : Later X => Hc.out _ (HT.out.frn x.fr)
            have z2 := fun x : Later X => Hlr.out _ (HT.out.frn x.fr)
            have z3 : ∀ (x : Later X) i, x.w.cell? ⟨w.heap.size, i, none⟩ = (#[.int .i64 rev, .int .i64 k, .int .i64 p, .int .u8 c, .int .i64 cl, .int .i64 sq] : Array Value)[i]? := fun x i => Blk.cell (HTd.out.fr x.fr fun h => h) i
            have z4 : ∀ (x : Later X) i, x.w.cell? ⟨w.heap.size + 1, i, none⟩ = (#[.int .i64 cl, .int .i64 sq] : Array Value)[i]? := fun x i => Blk.cell (HNm.out.fr x.fr fun h => h) i
            refine wp_region_L (by kernel_rfl) ?_
            refine wpL_heads 10 0 3 (by kernel_rfl) (by kernel_rfl) ?_ (by kernel_rfl)
            simp only [List.take_succ_cons, List.take_zero, List.drop_zero]
            repeat (go_big_quiet_step (fail))
            refine wpQuiet_nil ?_
            clear z1 z2 z3 z4
            refine wpL_step 10 rfl (by kernel_rfl) (fun wa ha ha' => ?_)
            have Ha := Lib.hid ha
            clear ha ha'
            go_wp2_with fail
            refine ⟨LC.mk (Ha.out.alloc _), ?_⟩
            have hz := Blk.new wa 26 #[.int .i64 0, .int .i64 0, .int .u8 0, .int .i64 0, .int .i64 0]
            have HZ := Lib.hid hz
            refine wpL_step 11 rfl (by kernel_rfl) (fun wb hb hb' => ?_)
            have hz' := HZ.out.fr hb' fun h => h
            have HZ' := Lib.hid hz'
            have Hb := Lib.hid hb
            have y1 := fun i => Blk.cell hz' i
            have y2 := fun i => Blk.frozen hz' i
            clear hz hz' HZ hb hb'
            go_wp2_with fail
            refine ⟨LC.mk ?_, ?_⟩
            · iterate 5 refine Fr.setCell ?_ (.inl Ha.out.size) _
              exact Hb.out
            clear y1 y2
            have HC := Lib.hid (((((HZ'.out.set_ 0 (.int .i64 k1)).set_ 1 (.int .i64 p1)).set_ 2 (.int .u8 c1)).set_ 3 (.int .i64 cl1)).set_ 4 (.int .i64 sq1))
            refine wpL_step 12 rfl (by kernel_rfl) (fun wc hc1 hc1' => ?_)
            have Hc1 := Lib.hid hc1
            have Hc2 := Lib.hid hc1'
            clear hc1 hc1'
            go_wp2_with fail
            refine ⟨LC.mk Hc1.out, ?_⟩
            refine wpL_done (by kernel_rfl) (fun w2 hc hc' => ?_)
            have HB2 : Hid (Blk w2 wa.heap.size 26 #[.int .i64 k1, .int .i64 p1, .int .u8 c1, .int .i64 cl1, .int .i64 sq1]) := Lib.hid (by have := ((HC.out.fr Hc2.out fun h => h).fr hc' fun h => h); simpa using this)
            have HF2 := Lib.hid hc
            clear Hb HZ' HC Hc1 Hc2 hc hc'
            have HT2 := Lib.hid (HT.out.frn HF2.out)
            have u1 := Hc.out _ HT2.out
            have u3 := fun n => Hlv.out _ (HT2.out.frn ((Fr.refl _ _).drewN n))
            have u4 : ∀ i, w2.cell? ⟨w.heap.size, i, none⟩ = (#[.int .i64 rev, .int .i64 k, .int .i64 p, .int .u8 c, .int .i64 cl, .int .i64 sq] : Array Value)[i]? := fun i => Blk.cell (HTd.out.fr HF2.out fun h => h) i
            have u5 : ∀ i, w2.cell? ⟨w.heap.size + 1, i, none⟩ = (#[.int .i64 cl, .int .i64 sq] : Array Value)[i]? := fun i => Blk.cell (HNm.out.fr HF2.out fun h => h) i
            have u6 : ∀ i, w2.cell? ⟨wa.heap.size, i, none⟩ = (#[.int .i64 k1, .int .i64 p1, .int .u8 c1, .int .i64 cl1, .int .i64 sq1] : Array Value)[i]? := fun i => Blk.cell HB2.out i
            go_wp2
            go_quiet (fail)
            clear u3
            go_wp2
            have HT8 := Lib.hid (HT2.out.frn ((Fr.refl _ _).drewN nq))
            have HTd8 := Lib.hid ((HTd.out.fr HF2.out fun h => h).drewN nq)
            have HNm8 := Lib.hid ((HNm.out.fr HF2.out fun h => h).drewN nq)
            have HF8 := Lib.hid ((HF.out.trans' HF2.out).drewN nq)
            clear u1 u4 u5 u6 HB2 HF2 HT2
            generalize w2.drewN nq = X8 at *
            have z1 := fun x : Later X8 => Hc.out _ (HT8.out.frn x.fr)
            have z2 := fun x : Later X8 => Hle.out _ (HT8.out.frn x.fr)
            have z3 : ∀ (x : Later X8) i, x.w.cell? ⟨w.heap.size, i, none⟩ = (#[.int .i64 rev, .int .i64 k, .int .i64 p, .int .u8 c, .int .i64 cl, .int .i64 sq] : Array Value)[i]? := fun x i => Blk.cell (HTd8.out.fr x.fr fun h => h) i
            have z4 : ∀ (x : Later X8) i, x.w.cell? ⟨w.heap.size + 1, i, none⟩ = (#[.int .i64 cl, .int .i64 sq] : Array Value)[i]? := fun x i => Blk.cell (HNm8.out.fr x.fr fun h => h) i
            refine wp_region_L (by kernel_rfl) ?_
            refine wpL_heads 9 0 3 (by kernel_rfl) (by kernel_rfl) ?_ (by kernel_rfl)
            simp only [List.take_succ_cons, List.take_zero, List.drop_zero]
            repeat (go_big_quiet_step (fail))
            refine wpQuiet_nil ?_
            clear z1 z2 z3 z4
            refine wpL_step 9 rfl (by kernel_rfl) (fun wa ha ha' => ?_)
            have Ha := Lib.hid ha
            clear ha ha'
            go_wp2_with fail
            refine ⟨LC.mk (Ha.out.alloc _), ?_⟩
            have hz := Blk.new wa 67 #[.int .i64 0, .int .i64 0, .int .i64 0, .int .u8 0, .int .i64 0, .int .i64 0]
            have HZ := Lib.hid hz
            refine wpL_step 10 rfl (by kernel_rfl) (fun wb hb hb' => ?_)
            have hz' := HZ.out.fr hb' fun h => h
            have HZ' := Lib.hid hz'
            have Hb := Lib.hid hb
            have y1 := fun i => Blk.cell hz' i
            have y2 := fun i => Blk.frozen hz' i
            clear hz hz' HZ hb hb'
            go_wp2_with fail
            refine ⟨LC.mk ?_, ?_⟩
            · iterate 6 refine Fr.setCell ?_ (.inl Ha.out.size) _
              exact Hb.out
            clear y1 y2
            have HC := Lib.hid ((((((HZ'.out.set_ 0 (.int .i64 t6)).set_ 1 (.int .i64 k6)).set_ 2 (.int .i64 p6)).set_ 3 (.int .u8 c6)).set_ 4 (.int .i64 cl6)).set_ 5 (.int .i64 sq6))
            refine wpL_step 11 rfl (by kernel_rfl) (fun wc hc1 hc1' => ?_)
            have Hc1 := Lib.hid hc1
            have Hc2 := Lib.hid hc1'
            clear hc1 hc1'
            go_wp2_with fail
            refine ⟨LC.mk Hc1.out, ?_⟩
            refine wpL_done (by kernel_rfl) (fun w9 hc hc' => ?_)
            have HB9 : Hid (Blk w9 wa.heap.size 67 #[.int .i64 t6, .int .i64 k6, .int .i64 p6, .int .u8 c6, .int .i64 cl6, .int .i64 sq6]) := Lib.hid (by have := ((HC.out.fr Hc2.out fun h => h).fr hc' fun h => h); simpa using this)
            have HF9 := Lib.hid hc
            clear Hb HZ' HC Hc1 Hc2 hc hc'
            have u4 : ∀ i, w9.cell? ⟨w.heap.size, i, none⟩ = (#[.int .i64 rev, .int .i64 k, .int .i64 p, .int .u8 c, .int .i64 cl, .int .i64 sq] : Array Value)[i]? := fun i => Blk.cell (HTd8.out.fr HF9.out fun h => h) i
            have u6 : ∀ i, w9.cell? ⟨wa.heap.size, i, none⟩ = (#[.int .i64 t6, .int .i64 k6, .int .i64 p6, .int .u8 c6, .int .i64 cl6, .int .i64 sq6] : Array Value)[i]? := fun i => Blk.cell HB9.out i
            have HG := Lib.hid (HF8.out.trans' HF9.out)
            go_wp2_with (go_at_call 97; refine (HT3.out _).mono ?_; rintro e1 w10 ⟨rfl, hf10⟩)
            go_ret
            exact ⟨retB (by rw [HE.out]; simp), HG.out.trans' hf10⟩
end Go.Proofs.YtodkhoclbhdihaaGreatDoor
