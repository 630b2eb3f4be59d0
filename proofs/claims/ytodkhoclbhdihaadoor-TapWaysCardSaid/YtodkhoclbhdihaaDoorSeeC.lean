/-
  Contract of tap's See: messages that go the right way.
-/
import Derived.Test.YtodkhoclbhdihaaDoorSeeB
namespace Go.Proofs.YtodkhoclbhdihaaDoor
open Go.RowKit

def zTold : Value := .agg #[.int .i64 0, .int .i64 0, .int .i64 0, .int .u8 0, .int .i64 0, .int .i64 0]
theorem ta_nil5 (w : World) : (Instr.typeAssert .nilIface 20 71 true).run Tryd.prog w = .ok (.tuple #[zTold, .bool false]) w := by kernel_rfl
theorem ta_nil2 (w : World) : (Instr.typeAssert .nilIface 20 78 true).run Tryd.prog w = .ok (.tuple #[zTold, .bool false]) w := by kernel_rfl
theorem ta_told (x : Value) (w : World) : (Instr.typeAssert (.iface 71 x) 20 71 true).run Tryd.prog w = .ok (.tuple #[x, .bool true]) w := by kernel_rfl
theorem ta_made5 (x : Value) (w : World) : (Instr.typeAssert (.iface 78 x) 20 71 true).run Tryd.prog w = .ok (.tuple #[zTold, .bool false]) w := by kernel_rfl
theorem ta_made (x : Value) (w : World) : (Instr.typeAssert (.iface 78 x) 20 78 true).run Tryd.prog w = .ok (.tuple #[x, .bool true]) w := by kernel_rfl

set_option maxHeartbeats 16000000 in
theorem see_other (B a r v e : Nat) (T : GTap) (fr to_ : Int) (A : Option Addr) (n c : Nat) (xs : List UInt8) (sp : Bool) (w : World) (hG : Glb B w) (hT : TapAt w a r v e T) (ha : RB w A n xs) (hc : n ≤ c) (hgood : ¬ badAdr T.clients fr to_) (m : GMsg) (hd : decF xs = .ok m) (hw : rightWay m fr to_ = true) (h5 : m.kind ≠ 5) (h2 : m.kind ≠ 2) :
    Calls Tryd.prog 12 #[.pointer (some ⟨a, 0, none⟩), dgV fr to_ (.slice A n c) sp] w fun ev w' => SeePost w a r v e ((0, 0), { T with epoch := maxI T.epoch m.epoch }) ev w' := by
  obtain ⟨X, hX⟩ : ∃ X : World, X = w.alloc (.cells #[.int .i64 fr, .int .i64 to_, .slice A n c, .bool sp] 33) := ⟨_, rfl⟩
  have HX := Lib.hid hX
  have hXf : Fr None' w X := by rw [hX]; exact (Fr.refl _ _).alloc _
  have hD : Blk X w.heap.size 33 #[.int .i64 fr, .int .i64 to_, .slice A n c, .bool sp] := by rw [hX]; exact Blk.new _ _ _
  clear hX
  have HTlt : ∀ k, Its a r v e k → k < w.heap.size := hT.lt
  have hT1 := hT.frn hXf
  have z1 := hT1.cells
  have z2 : ∀ i, X.cell? ⟨w.heap.size, i, none⟩ = (#[.int .i64 fr, .int .i64 to_, .slice A n c, .bool sp] : Array Value)[i]? := fun i => Blk.cell hD i
  have HT := Lib.hid hT1
  have HF := Lib.hid hXf
  have HD := Lib.hid hD
  have He := Lib.hid wrap_fr
  have hadr : adrB T.clients fr to_ = false := by cases h : adrB T.clients fr to_; rfl; exact absurd ((adrB_iff _ _ _).1 h) hgood
  have HG := Lib.hid (hG.fr hXf fun _ h => h.elim)
  have HRB := Lib.hid (ha.frn hXf)
  clear hT hT1 hXf hD hG ha hgood
  unfold adrB at hadr
  have hmin := fun ts ty w => run_min ts ty fr to_ w
  have hmax := fun ts ty w => run_max ts ty fr to_ w
  generalize minI fr to_ = mn at *
  generalize maxI fr to_ = mx at *
  obtain ⟨gA, gB, gC⟩ : ((fr == 0) == (to_ == 0)) = false ∧ decide (mn < 0) = false ∧ decide (T.clients < mx) = false := by simpa only [Bool.or_eq_false_iff, and_assoc] using hadr
  clear hadr
  unfold dgV
  have Hd0 := Lib.hid hd
  have Hp0 := proves_any m fr to_ (.slice A n c) sp
  have Hfr := Lib.hid fun w (h : TapAt w a r v e T) => fitsRec_any a r v e T m.rev m.op w h
  have Hfe := Lib.hid fun w (h : TapAt w a r v e T) => fitsEd_any a r v e T ⟨m.tag, m.op⟩ w h
  have HU1 := Lib.hid fun w (h : TapAt w a r v e T) => h.recs.update rec_under int_key m.rev m.op
  have HU2 := Lib.hid fun w (h : TapAt w a r v e { T with records := put T.records m.rev m.op }) => h.revs.update rev_under name_key (nameOf m.op) m.rev
  have HU3 := Lib.hid fun w (h : TapAt w a r v e T) => h.eds.update ed_under name_key (nameOf m.op) ⟨m.tag, m.op⟩
  have hmx := fun ts ty w => run_max ts ty T.epoch m.epoch w
  clear hd
  have hpv : provV m = .nilIface := by unfold provV; rw [if_neg h5, if_neg h2]
  rw [hpv] at Hp0
  clear hpv Hfr Hfe HU1 HU2 HU3 h5 h2
  rw [hw] at Hp0
  clear hw
  obtain ⟨k, ep, cl, hv, fi, nu, ac, rv, tg, ⟨ok, op, oc0, ol, os⟩⟩ := m
  dsimp only at *
  unfold msgV msgCells opCells dgV at Hp0
  simp only [List.cons_append, List.nil_append] at Hp0
  have Hp := Lib.hid Hp0
  clear Hp0
  go_enter Tryd.func12, Tryd.ntmps12
  go_wp2
  rw [← HX.out]
  go_quiet (fail)
  clear z1 z2 hmin hmax gA gB gC
  have HT1 := Lib.hid (HT.out.frn ((Fr.refl _ _).drewN nq))
  have HF1 := Lib.hid (HF.out.drewN nq)
  have hD1 := HD.out.drewN nq
  have HD1 := Lib.hid hD1
  have z2 : ∀ i, (X.drewN nq).cell? ⟨w.heap.size, i, none⟩ = (#[.int .i64 fr, .int .i64 to_, .slice A n c, .bool sp] : Array Value)[i]? := fun i => Blk.cell hD1 i
  have Hd := Lib.hid (decode_any B A n c xs (X.drewN nq) (HG.out.fr ((Fr.refl None' _).drewN nq) fun _ h => h.elim) (HRB.out.frn ((Fr.refl _ _).drewN nq)) hc)
  clear hD1
  generalize X.drewN nq = X1 at *
  unfold DecPost at Hd
  rw [Hd0.out] at Hd
  dsimp only at Hd
  unfold msgV msgCells opCells at Hd
  simp only [List.cons_append, List.nil_append] at Hd
  go_wp2_with fail
  refine Hd.out.mono ?_
  rintro e1 w2 ⟨rfl, hf2⟩
  dsimp only
  obtain ⟨X2, hX2⟩ : ∃ X2 : World, X2 = w2.alloc (.cells #[.int .i64 k, .int .i64 ep, .int .i64 cl, .int .i64 hv, .int .i64 fi, .int .i64 nu, .int .i64 ac, .int .i64 rv, .int .i64 tg, .int .i64 ok, .int .i64 op, .int .u8 (oc0.toNat : Int), .int .i64 ol, .int .i64 os] 25) := ⟨_, rfl⟩
  have HX2 := Lib.hid hX2
  have hx2 : Fr None' X1 X2 := by rw [hX2]; exact hf2.alloc _
  have hM : Blk X2 w2.heap.size 25 #[.int .i64 k, .int .i64 ep, .int .i64 cl, .int .i64 hv, .int .i64 fi, .int .i64 nu, .int .i64 ac, .int .i64 rv, .int .i64 tg, .int .i64 ok, .int .i64 op, .int .u8 (oc0.toNat : Int), .int .i64 ol, .int .i64 os] := by rw [hX2]; exact Blk.new _ _ _
  clear hX2 z2
  have z2 : ∀ i, X2.cell? ⟨w.heap.size, i, none⟩ = (#[.int .i64 fr, .int .i64 to_, .slice A n c, .bool sp] : Array Value)[i]? := fun i => Blk.cell (HD1.out.fr hx2 fun h => h) i
  have z3 : ∀ i, X2.cell? ⟨w2.heap.size, i, none⟩ = (#[.int .i64 k, .int .i64 ep, .int .i64 cl, .int .i64 hv, .int .i64 fi, .int .i64 nu, .int .i64 ac, .int .i64 rv, .int .i64 tg, .int .i64 ok, .int .i64 op, .int .u8 (oc0.toNat : Int), .int .i64 ol, .int .i64 os] : Array Value)[i]? := fun i => Blk.cell hM i
  have HF2 := Lib.hid (HF1.out.trans' hx2)
  have HT2 := Lib.hid (HT1.out.frn hx2)
  have HM := Lib.hid hM
  have z4 : ∀ i, w2.cell? ⟨w.heap.size, i, none⟩ = (#[.int .i64 fr, .int .i64 to_, .slice A n c, .bool sp] : Array Value)[i]? := fun i => Blk.cell (HD1.out.fr hf2 fun h => h) i
  have l2 : w.heap.size < w2.heap.size := (HD1.out.fr hf2 fun h => h).lt
  clear hx2 hM hf2 Hd
  go_wp2_with fail
  rw [← HX2.out]
  refine (Hp.out _).mono ?_
  rintro e2 w3 ⟨rfl, hf3⟩
  dsimp only
  have HF3 := Lib.hid (HF2.out.trans' hf3)
  have HT3 := Lib.hid (HT2.out.frn hf3)
  have HL2 := Lib.hid (show w.heap.size ≤ w2.heap.size by omega)
  have HL3 := Lib.hid HF3.out.size
  have HM3 := Lib.hid (HM.out.fr hf3 fun h => h)
  clear hf3 z2 z3 z4 HD1 HD HM HT2 HF2 HT1 HF1 HT HF
  have a1 := ta_nil5
  have a2 := ta_nil2
  go_wp2
  clear a1 a2
  have y1 := HT3.out.cells
  have y2 := fun i => Blk.frozen HT3.out.blk i
  have y3 : ∀ i, w3.cell? ⟨w2.heap.size, i, none⟩ = (#[.int .i64 k, .int .i64 ep, .int .i64 cl, .int .i64 hv, .int .i64 fi, .int .i64 nu, .int .i64 ac, .int .i64 rv, .int .i64 tg, .int .i64 ok, .int .i64 op, .int .u8 (oc0.toNat : Int), .int .i64 ol, .int .i64 os] : Array Value)[i]? := fun i => Blk.cell HM3.out i
  refine wp_region_tail 10 (by kernel_rfl) (by kernel_rfl) ?_
  simp only [List.take_succ_cons, List.take_zero, List.drop_succ_cons, List.drop_zero]
  repeat (go_big_quiet_step (fail))
  refine wpQuiet_nil ?_
  go_wp2
  go_ret
  exact ⟨_, rfl, .inl ⟨rfl, rfl⟩, (HT3.out.frn (Fr.refl _ _).drew).upEpoch _, (HF3.out.none.drew).setCell (.inr (.inl rfl)) _⟩

set_option maxHeartbeats 16000000 in
theorem see_rec_false (B a r v e : Nat) (T : GTap) (fr to_ : Int) (A : Option Addr) (n c : Nat) (xs : List UInt8) (sp : Bool) (w : World) (hG : Glb B w) (hT : TapAt w a r v e T) (ha : RB w A n xs) (hc : n ≤ c) (hgood : ¬ badAdr T.clients fr to_) (m : GMsg) (hd : decF xs = .ok m) (hw : rightWay m fr to_ = true) (hk : m.kind = 5) (hfit : fitsRec T m.rev m.op = false) :
    Calls Tryd.prog 12 #[.pointer (some ⟨a, 0, none⟩), dgV fr to_ (.slice A n c) sp] w fun ev w' => SeePost w a r v e ((280, m.rev), T) ev w' := by
  obtain ⟨X, hX⟩ : ∃ X : World, X = w.alloc (.cells #[.int .i64 fr, .int .i64 to_, .slice A n c, .bool sp] 33) := ⟨_, rfl⟩
  have HX := Lib.hid hX
  have hXf : Fr None' w X := by rw [hX]; exact (Fr.refl _ _).alloc _
  have hD : Blk X w.heap.size 33 #[.int .i64 fr, .int .i64 to_, .slice A n c, .bool sp] := by rw [hX]; exact Blk.new _ _ _
  clear hX
  have HTlt : ∀ k, Its a r v e k → k < w.heap.size := hT.lt
  have hT1 := hT.frn hXf
  have z1 := hT1.cells
  have z2 : ∀ i, X.cell? ⟨w.heap.size, i, none⟩ = (#[.int .i64 fr, .int .i64 to_, .slice A n c, .bool sp] : Array Value)[i]? := fun i => Blk.cell hD i
  have HT := Lib.hid hT1
  have HF := Lib.hid hXf
  have HD := Lib.hid hD
  have He := Lib.hid wrap_fr
  have hadr : adrB T.clients fr to_ = false := by cases h : adrB T.clients fr to_; rfl; exact absurd ((adrB_iff _ _ _).1 h) hgood
  have HG := Lib.hid (hG.fr hXf fun _ h => h.elim)
  have HRB := Lib.hid (ha.frn hXf)
  clear hT hT1 hXf hD hG ha hgood
  unfold adrB at hadr
  have hmin := fun ts ty w => run_min ts ty fr to_ w
  have hmax := fun ts ty w => run_max ts ty fr to_ w
  generalize minI fr to_ = mn at *
  generalize maxI fr to_ = mx at *
  obtain ⟨gA, gB, gC⟩ : ((fr == 0) == (to_ == 0)) = false ∧ decide (mn < 0) = false ∧ decide (T.clients < mx) = false := by simpa only [Bool.or_eq_false_iff, and_assoc] using hadr
  clear hadr
  unfold dgV
  have Hd0 := Lib.hid hd
  have Hp0 := proves_any m fr to_ (.slice A n c) sp
  have Hfr := Lib.hid fun w (h : TapAt w a r v e T) => fitsRec_any a r v e T m.rev m.op w h
  have Hfe := Lib.hid fun w (h : TapAt w a r v e T) => fitsEd_any a r v e T ⟨m.tag, m.op⟩ w h
  have HU1 := Lib.hid fun w (h : TapAt w a r v e T) => h.recs.update rec_under int_key m.rev m.op
  have HU2 := Lib.hid fun w (h : TapAt w a r v e { T with records := put T.records m.rev m.op }) => h.revs.update rev_under name_key (nameOf m.op) m.rev
  have HU3 := Lib.hid fun w (h : TapAt w a r v e T) => h.eds.update ed_under name_key (nameOf m.op) ⟨m.tag, m.op⟩
  have hmx := fun ts ty w => run_max ts ty T.epoch m.epoch w
  clear hd
  have hpv : provV m = .iface 71 (toldV m.rev m.op) := by unfold provV; rw [if_pos hk]
  rw [hpv] at Hp0
  have Hf0 : ∀ w, TapAt w a r v e T → Calls Tryd.prog 25 #[.pointer (some ⟨a, 0, none⟩), toldV m.rev m.op] w fun ev w' => ev = .returned (.bool false) ∧ Fr None' w w' := fun w h => by rw [← hfit]; exact Hfr.out w h
  clear hpv Hfr Hfe hk hfit
  clear HU1 HU2 HU3 hmx
  rw [hw] at Hp0
  clear hw
  obtain ⟨k, ep, cl, hv, fi, nu, ac, rv, tg, ⟨ok, op, oc0, ol, os⟩⟩ := m
  dsimp only at *
  unfold msgV msgCells opCells dgV at Hp0
  simp only [List.cons_append, List.nil_append] at Hp0
  unfold toldV opCells at Hp0 Hf0
  have Hp := Lib.hid Hp0
  have Hf := Lib.hid Hf0
  clear Hp0 Hf0
  go_enter Tryd.func12, Tryd.ntmps12
  go_wp2
  rw [← HX.out]
  go_quiet (fail)
  clear z1 z2 hmin hmax gA gB gC
  have HT1 := Lib.hid (HT.out.frn ((Fr.refl _ _).drewN nq))
  have HF1 := Lib.hid (HF.out.drewN nq)
  have hD1 := HD.out.drewN nq
  have HD1 := Lib.hid hD1
  have z2 : ∀ i, (X.drewN nq).cell? ⟨w.heap.size, i, none⟩ = (#[.int .i64 fr, .int .i64 to_, .slice A n c, .bool sp] : Array Value)[i]? := fun i => Blk.cell hD1 i
  have Hd := Lib.hid (decode_any B A n c xs (X.drewN nq) (HG.out.fr ((Fr.refl None' _).drewN nq) fun _ h => h.elim) (HRB.out.frn ((Fr.refl _ _).drewN nq)) hc)
  clear hD1
  generalize X.drewN nq = X1 at *
  unfold DecPost at Hd
  rw [Hd0.out] at Hd
  dsimp only at Hd
  unfold msgV msgCells opCells at Hd
  simp only [List.cons_append, List.nil_append] at Hd
  go_wp2_with fail
  refine Hd.out.mono ?_
  rintro e1 w2 ⟨rfl, hf2⟩
  dsimp only
  obtain ⟨X2, hX2⟩ : ∃ X2 : World, X2 = w2.alloc (.cells #[.int .i64 k, .int .i64 ep, .int .i64 cl, .int .i64 hv, .int .i64 fi, .int .i64 nu, .int .i64 ac, .int .i64 rv, .int .i64 tg, .int .i64 ok, .int .i64 op, .int .u8 (oc0.toNat : Int), .int .i64 ol, .int .i64 os] 25) := ⟨_, rfl⟩
  have HX2 := Lib.hid hX2
  have hx2 : Fr None' X1 X2 := by rw [hX2]; exact hf2.alloc _
  have hM : Blk X2 w2.heap.size 25 #[.int .i64 k, .int .i64 ep, .int .i64 cl, .int .i64 hv, .int .i64 fi, .int .i64 nu, .int .i64 ac, .int .i64 rv, .int .i64 tg, .int .i64 ok, .int .i64 op, .int .u8 (oc0.toNat : Int), .int .i64 ol, .int .i64 os] := by rw [hX2]; exact Blk.new _ _ _
  clear hX2 z2
  have z2 : ∀ i, X2.cell? ⟨w.heap.size, i, none⟩ = (#[.int .i64 fr, .int .i64 to_, .slice A n c, .bool sp] : Array Value)[i]? := fun i => Blk.cell (HD1.out.fr hx2 fun h => h) i
  have z3 : ∀ i, X2.cell? ⟨w2.heap.size, i, none⟩ = (#[.int .i64 k, .int .i64 ep, .int .i64 cl, .int .i64 hv, .int .i64 fi, .int .i64 nu, .int .i64 ac, .int .i64 rv, .int .i64 tg, .int .i64 ok, .int .i64 op, .int .u8 (oc0.toNat : Int), .int .i64 ol, .int .i64 os] : Array Value)[i]? := fun i => Blk.cell hM i
  have HF2 := Lib.hid (HF1.out.trans' hx2)
  have HT2 := Lib.hid (HT1.out.frn hx2)
  have HM := Lib.hid hM
  have z4 : ∀ i, w2.cell? ⟨w.heap.size, i, none⟩ = (#[.int .i64 fr, .int .i64 to_, .slice A n c, .bool sp] : Array Value)[i]? := fun i => Blk.cell (HD1.out.fr hf2 fun h => h) i
  have l2 : w.heap.size < w2.heap.size := (HD1.out.fr hf2 fun h => h).lt
  clear hx2 hM hf2 Hd
  go_wp2_with fail
  rw [← HX2.out]
  refine (Hp.out _).mono ?_
  rintro e2 w3 ⟨rfl, hf3⟩
  dsimp only
  have HF3 := Lib.hid (HF2.out.trans' hf3)
  have HT3 := Lib.hid (HT2.out.frn hf3)
  have HL2 := Lib.hid (show w.heap.size ≤ w2.heap.size by omega)
  have HL3 := Lib.hid HF3.out.size
  have HM3 := Lib.hid (HM.out.fr hf3 fun h => h)
  clear hf3 z2 z3 z4 HD1 HD HM HT2 HF2 HT1 HF1 HT HF
  have HK := Lib.hid (Blk.new w3 71 #[.int .i64 rv, .int .i64 ok, .int .i64 op, .int .u8 (oc0.toNat : Int), .int .i64 ol, .int .i64 os])
  have a1 := ta_told
  have a2 := ta_made5
  have a3 := ta_made
  go_wp2_with fail
  refine (Hf.out _ (HT3.out.frn ((Fr.refl _ _).alloc _))).mono ?_
  rintro e3 w4 ⟨rfl, hf4⟩
  dsimp only
  have HT4 := Lib.hid ((HT3.out.frn ((Fr.refl _ _).alloc _)).frn hf4)
  have HF4 := Lib.hid ((HF3.out.alloc _).trans' hf4)
  have HM4 := Lib.hid ((HM3.out.alloc _).fr hf4 fun h => h)
  have HK4 := Lib.hid (HK.out.fr hf4 fun h => h)
  have x1 : ∀ i, w4.cell? ⟨w3.heap.size, i, none⟩ = (#[.int .i64 rv, .int .i64 ok, .int .i64 op, .int .u8 (oc0.toNat : Int), .int .i64 ol, .int .i64 os] : Array Value)[i]? := fun i => Blk.cell HK4.out i
  clear hf4
  go_wp2_with (go_at_call 22; refine (He.out _ _ _).mono ?_; rintro e3 w5 ⟨g, rfl, hF, hf5⟩)
  go_ret
  exact ⟨_, rfl, .inr ⟨by simp, g, rfl, hF⟩, HT4.out.frn hf5, (HF4.out.trans' hf5).none⟩

set_option maxHeartbeats 16000000 in
theorem see_rec_true (B a r v e : Nat) (T : GTap) (fr to_ : Int) (A : Option Addr) (n c : Nat) (xs : List UInt8) (sp : Bool) (w : World) (hG : Glb B w) (hT : TapAt w a r v e T) (ha : RB w A n xs) (hc : n ≤ c) (hgood : ¬ badAdr T.clients fr to_) (m : GMsg) (hd : decF xs = .ok m) (hw : rightWay m fr to_ = true) (hk : m.kind = 5) (hfit : fitsRec T m.rev m.op = true) :
    Calls Tryd.prog 12 #[.pointer (some ⟨a, 0, none⟩), dgV fr to_ (.slice A n c) sp] w fun ev w' => SeePost w a r v e ((0, 0), { T with epoch := maxI T.epoch m.epoch, records := put T.records m.rev m.op, revs := put T.revs (nameOf m.op) m.rev }) ev w' := by
  obtain ⟨X, hX⟩ : ∃ X : World, X = w.alloc (.cells #[.int .i64 fr, .int .i64 to_, .slice A n c, .bool sp] 33) := ⟨_, rfl⟩
  have HX := Lib.hid hX
  have hXf : Fr None' w X := by rw [hX]; exact (Fr.refl _ _).alloc _
  have hD : Blk X w.heap.size 33 #[.int .i64 fr, .int .i64 to_, .slice A n c, .bool sp] := by rw [hX]; exact Blk.new _ _ _
  clear hX
  have HTlt : ∀ k, Its a r v e k → k < w.heap.size := hT.lt
  have hT1 := hT.frn hXf
  have z1 := hT1.cells
  have z2 : ∀ i, X.cell? ⟨w.heap.size, i, none⟩ = (#[.int .i64 fr, .int .i64 to_, .slice A n c, .bool sp] : Array Value)[i]? := fun i => Blk.cell hD i
  have HT := Lib.hid hT1
  have HF := Lib.hid hXf
  have HD := Lib.hid hD
  have He := Lib.hid wrap_fr
  have hadr : adrB T.clients fr to_ = false := by cases h : adrB T.clients fr to_; rfl; exact absurd ((adrB_iff _ _ _).1 h) hgood
  have HG := Lib.hid (hG.fr hXf fun _ h => h.elim)
  have HRB := Lib.hid (ha.frn hXf)
  clear hT hT1 hXf hD hG ha hgood
  unfold adrB at hadr
  have hmin := fun ts ty w => run_min ts ty fr to_ w
  have hmax := fun ts ty w => run_max ts ty fr to_ w
  generalize minI fr to_ = mn at *
  generalize maxI fr to_ = mx at *
  obtain ⟨gA, gB, gC⟩ : ((fr == 0) == (to_ == 0)) = false ∧ decide (mn < 0) = false ∧ decide (T.clients < mx) = false := by simpa only [Bool.or_eq_false_iff, and_assoc] using hadr
  clear hadr
  unfold dgV
  have Hd0 := Lib.hid hd
  have Hp0 := proves_any m fr to_ (.slice A n c) sp
  have Hfr := Lib.hid fun w (h : TapAt w a r v e T) => fitsRec_any a r v e T m.rev m.op w h
  have Hfe := Lib.hid fun w (h : TapAt w a r v e T) => fitsEd_any a r v e T ⟨m.tag, m.op⟩ w h
  have HU1 := Lib.hid fun w (h : TapAt w a r v e T) => h.recs.update rec_under int_key m.rev m.op
  have HU2 := Lib.hid fun w (h : TapAt w a r v e { T with records := put T.records m.rev m.op }) => h.revs.update rev_under name_key (nameOf m.op) m.rev
  have HU3 := Lib.hid fun w (h : TapAt w a r v e T) => h.eds.update ed_under name_key (nameOf m.op) ⟨m.tag, m.op⟩
  have hmx := fun ts ty w => run_max ts ty T.epoch m.epoch w
  clear hd
  have hpv : provV m = .iface 71 (toldV m.rev m.op) := by unfold provV; rw [if_pos hk]
  rw [hpv] at Hp0
  have Hf0 : ∀ w, TapAt w a r v e T → Calls Tryd.prog 25 #[.pointer (some ⟨a, 0, none⟩), toldV m.rev m.op] w fun ev w' => ev = .returned (.bool true) ∧ Fr None' w w' := fun w h => by rw [← hfit]; exact Hfr.out w h
  clear hpv Hfr Hfe hk hfit
  rw [hw] at Hp0
  clear hw
  obtain ⟨k, ep, cl, hv, fi, nu, ac, rv, tg, ⟨ok, op, oc0, ol, os⟩⟩ := m
  dsimp only at *
  unfold msgV msgCells opCells dgV at Hp0
  simp only [List.cons_append, List.nil_append] at Hp0
  unfold toldV opCells at Hp0 Hf0
  have Hp := Lib.hid Hp0
  have Hf := Lib.hid Hf0
  clear Hp0 Hf0
  go_enter Tryd.func12, Tryd.ntmps12
  go_wp2
  rw [← HX.out]
  go_quiet (fail)
  clear z1 z2 hmin hmax gA gB gC
  have HT1 := Lib.hid (HT.out.frn ((Fr.refl _ _).drewN nq))
  have HF1 := Lib.hid (HF.out.drewN nq)
  have hD1 := HD.out.drewN nq
  have HD1 := Lib.hid hD1
  have z2 : ∀ i, (X.drewN nq).cell? ⟨w.heap.size, i, none⟩ = (#[.int .i64 fr, .int .i64 to_, .slice A n c, .bool sp] : Array Value)[i]? := fun i => Blk.cell hD1 i
  have Hd := Lib.hid (decode_any B A n c xs (X.drewN nq) (HG.out.fr ((Fr.refl None' _).drewN nq) fun _ h => h.elim) (HRB.out.frn ((Fr.refl _ _).drewN nq)) hc)
  clear hD1
  generalize X.drewN nq = X1 at *
  unfold DecPost at Hd
  rw [Hd0.out] at Hd
  dsimp only at Hd
  unfold msgV msgCells opCells at Hd
  simp only [List.cons_append, List.nil_append] at Hd
  go_wp2_with fail
  refine Hd.out.mono ?_
  rintro e1 w2 ⟨rfl, hf2⟩
  dsimp only
  obtain ⟨X2, hX2⟩ : ∃ X2 : World, X2 = w2.alloc (.cells #[.int .i64 k, .int .i64 ep, .int .i64 cl, .int .i64 hv, .int .i64 fi, .int .i64 nu, .int .i64 ac, .int .i64 rv, .int .i64 tg, .int .i64 ok, .int .i64 op, .int .u8 (oc0.toNat : Int), .int .i64 ol, .int .i64 os] 25) := ⟨_, rfl⟩
  have HX2 := Lib.hid hX2
  have hx2 : Fr None' X1 X2 := by rw [hX2]; exact hf2.alloc _
  have hM : Blk X2 w2.heap.size 25 #[.int .i64 k, .int .i64 ep, .int .i64 cl, .int .i64 hv, .int .i64 fi, .int .i64 nu, .int .i64 ac, .int .i64 rv, .int .i64 tg, .int .i64 ok, .int .i64 op, .int .u8 (oc0.toNat : Int), .int .i64 ol, .int .i64 os] := by rw [hX2]; exact Blk.new _ _ _
  clear hX2 z2
  have z2 : ∀ i, X2.cell? ⟨w.heap.size, i, none⟩ = (#[.int .i64 fr, .int .i64 to_, .slice A n c, .bool sp] : Array Value)[i]? := fun i => Blk.cell (HD1.out.fr hx2 fun h => h) i
  have z3 : ∀ i, X2.cell? ⟨w2.heap.size, i, none⟩ = (#[.int .i64 k, .int .i64 ep, .int .i64 cl, .int .i64 hv, .int .i64 fi, .int .i64 nu, .int .i64 ac, .int .i64 rv, .int .i64 tg, .int .i64 ok, .int .i64 op, .int .u8 (oc0.toNat : Int), .int .i64 ol, .int .i64 os] : Array Value)[i]? := fun i => Blk.cell hM i
  have HF2 := Lib.hid (HF1.out.trans' hx2)
  have HT2 := Lib.hid (HT1.out.frn hx2)
  have HM := Lib.hid hM
  have z4 : ∀ i, w2.cell? ⟨w.heap.size, i, none⟩ = (#[.int .i64 fr, .int .i64 to_, .slice A n c, .bool sp] : Array Value)[i]? := fun i => Blk.cell (HD1.out.fr hf2 fun h => h) i
  have l2 : w.heap.size < w2.heap.size := (HD1.out.fr hf2 fun h => h).lt
  clear hx2 hM hf2 Hd
  go_wp2_with fail
  rw [← HX2.out]
  refine (Hp.out _).mono ?_
  rintro e2 w3 ⟨rfl, hf3⟩
  dsimp only
  have HF3 := Lib.hid (HF2.out.trans' hf3)
  have HT3 := Lib.hid (HT2.out.frn hf3)
  have HL2 := Lib.hid (show w.heap.size ≤ w2.heap.size by omega)
  have HL3 := Lib.hid HF3.out.size
  have HM3 := Lib.hid (HM.out.fr hf3 fun h => h)
  clear hf3 z2 z3 z4 HD1 HD HM HT2 HF2 HT1 HF1 HT HF
  have HK := Lib.hid (Blk.new w3 71 #[.int .i64 rv, .int .i64 ok, .int .i64 op, .int .u8 (oc0.toNat : Int), .int .i64 ol, .int .i64 os])
  have a1 := ta_told
  have a2 := ta_made5
  have a3 := ta_made
  go_wp2_with fail
  refine (Hf.out _ (HT3.out.frn ((Fr.refl _ _).alloc _))).mono ?_
  rintro e3 w4 ⟨rfl, hf4⟩
  dsimp only
  have HT4 := Lib.hid ((HT3.out.frn ((Fr.refl _ _).alloc _)).frn hf4)
  have HF4 := Lib.hid ((HF3.out.alloc _).trans' hf4)
  have HM4 := Lib.hid ((HM3.out.alloc _).fr hf4 fun h => h)
  have HK4 := Lib.hid (HK.out.fr hf4 fun h => h)
  have x1 : ∀ i, w4.cell? ⟨w3.heap.size, i, none⟩ = (#[.int .i64 rv, .int .i64 ok, .int .i64 op, .int .u8 (oc0.toNat : Int), .int .i64 ol, .int .i64 os] : Array Value)[i]? := fun i => Blk.cell HK4.out i
  clear hf4
  go_wp2
  have x2 := HT4.out.cells
  have HI := Lib.hid HTlt
  obtain ⟨w5, hw5⟩ : ∃ x : World, x = mapSet vi opV w4.drew r (put T.records rv ⟨ok, op, oc0, ol, os⟩) := ⟨_, rfl⟩
  have hu : (Instr.mapUpdate MR (.map (some r)) (.int .i64 rv) (.agg #[.int .i64 ok, .int .i64 op, .int .u8 (oc0.toNat : Int), .int .i64 ol, .int .i64 os])).run Tryd.prog w4.drew = .ok () w5 := by rw [hw5]; exact HU1.out _ (HT4.out.frn (Fr.refl _ _).drew)
  have HT5 := Lib.hid (show TapAt w5 a r v e _ by rw [hw5]; exact (HT4.out.frn (Fr.refl _ _).drew).upRec _)
  have HF5 := Lib.hid (show Fr (Its a r v e) w w5 by rw [hw5]; exact Fr.mapSet ((HF4.out.none).drew) (.inr (.inr (.inl rfl))) _)
  have hgw5 : Fr (Its a r v e) w4 w5 := by rw [hw5]; exact Fr.mapSet ((Fr.refl _ _).drew) (.inr (.inr (.inl rfl))) _
  clear hw5
  refine wp_region_tail 8 (by kernel_rfl) (by kernel_rfl) ?_
  simp only [List.take_succ_cons, List.take_zero, List.drop_succ_cons, List.drop_zero]
  repeat (go_big_quiet_step (fail))
  refine wpQuiet_nil ?_
  go_wp2
  have HM5 := Lib.hid (HM4.out.fr hgw5 (fun h => by have := HI.out _ h; have := HL2.out; omega))
  have HK5 := Lib.hid (HK4.out.fr hgw5 (fun h => by have := HI.out _ h; have := HL3.out; omega))
  clear x1 x2 hu hgw5
  have x2 := HT5.out.cells
  have x1 : ∀ i, w5.cell? ⟨w3.heap.size, i, none⟩ = (#[.int .i64 rv, .int .i64 ok, .int .i64 op, .int .u8 (oc0.toNat : Int), .int .i64 ol, .int .i64 os] : Array Value)[i]? := fun i => Blk.cell HK5.out i
  obtain ⟨w6, hw6⟩ : ∃ x : World, x = mapSet nameV vi w5.drew v (put T.revs (ol, os) rv) := ⟨_, rfl⟩
  have hu : (Instr.mapUpdate MV (.map (some v)) (.agg #[.int .i64 ol, .int .i64 os]) (.int .i64 rv)).run Tryd.prog w5.drew = .ok () w6 := by rw [hw6]; exact HU2.out _ (HT5.out.frn (Fr.refl _ _).drew)
  have HT6 := Lib.hid (show TapAt w6 a r v e _ by rw [hw6]; exact (HT5.out.frn (Fr.refl _ _).drew).upRev _)
  have HF6 := Lib.hid (show Fr (Its a r v e) w w6 by rw [hw6]; exact Fr.mapSet (HF5.out.drew) (.inr (.inr (.inr (.inl rfl)))) _)
  have hgw6 : Fr (Its a r v e) w5 w6 := by rw [hw6]; exact Fr.mapSet ((Fr.refl _ _).drew) (.inr (.inr (.inr (.inl rfl)))) _
  clear hw6
  refine wp_region_tail 13 (by kernel_rfl) (by kernel_rfl) ?_
  simp only [List.take_succ_cons, List.take_zero, List.drop_succ_cons, List.drop_zero]
  repeat (go_big_quiet_step (fail))
  refine wpQuiet_nil ?_
  go_wp2
  have HM6 := Lib.hid (HM5.out.fr hgw6 (fun h => by have := HI.out _ h; have := HL2.out; omega))
  clear x1 x2 hu hgw6
  have y1 := HT6.out.cells
  have y2 := fun i => Blk.frozen HT6.out.blk i
  have y3 : ∀ i, w6.cell? ⟨w2.heap.size, i, none⟩ = (#[.int .i64 k, .int .i64 ep, .int .i64 cl, .int .i64 hv, .int .i64 fi, .int .i64 nu, .int .i64 ac, .int .i64 rv, .int .i64 tg, .int .i64 ok, .int .i64 op, .int .u8 (oc0.toNat : Int), .int .i64 ol, .int .i64 os] : Array Value)[i]? := fun i => Blk.cell HM6.out i
  refine wp_region_tail 10 (by kernel_rfl) (by kernel_rfl) ?_
  simp only [List.take_succ_cons, List.take_zero, List.drop_succ_cons, List.drop_zero]
  repeat (go_big_quiet_step (fail))
  refine wpQuiet_nil ?_
  go_wp2
  go_ret
  exact ⟨_, rfl, .inl ⟨rfl, rfl⟩, (HT6.out.frn (Fr.refl _ _).drew).upEpoch _, (HF6.out.drew).setCell (.inr (.inl rfl)) _⟩

set_option maxHeartbeats 16000000 in
theorem see_ed_false (B a r v e : Nat) (T : GTap) (fr to_ : Int) (A : Option Addr) (n c : Nat) (xs : List UInt8) (sp : Bool) (w : World) (hG : Glb B w) (hT : TapAt w a r v e T) (ha : RB w A n xs) (hc : n ≤ c) (hgood : ¬ badAdr T.clients fr to_) (m : GMsg) (hd : decF xs = .ok m) (hw : rightWay m fr to_ = true) (hk : m.kind = 2) (hfit : fitsEd T ⟨m.tag, m.op⟩ = false) :
    Calls Tryd.prog 12 #[.pointer (some ⟨a, 0, none⟩), dgV fr to_ (.slice A n c) sp] w fun ev w' => SeePost w a r v e ((280, m.op.seq), T) ev w' := by
  obtain ⟨X, hX⟩ : ∃ X : World, X = w.alloc (.cells #[.int .i64 fr, .int .i64 to_, .slice A n c, .bool sp] 33) := ⟨_, rfl⟩
  have HX := Lib.hid hX
  have hXf : Fr None' w X := by rw [hX]; exact (Fr.refl _ _).alloc _
  have hD : Blk X w.heap.size 33 #[.int .i64 fr, .int .i64 to_, .slice A n c, .bool sp] := by rw [hX]; exact Blk.new _ _ _
  clear hX
  have HTlt : ∀ k, Its a r v e k → k < w.heap.size := hT.lt
  have hT1 := hT.frn hXf
  have z1 := hT1.cells
  have z2 : ∀ i, X.cell? ⟨w.heap.size, i, none⟩ = (#[.int .i64 fr, .int .i64 to_, .slice A n c, .bool sp] : Array Value)[i]? := fun i => Blk.cell hD i
  have HT := Lib.hid hT1
  have HF := Lib.hid hXf
  have HD := Lib.hid hD
  have He := Lib.hid wrap_fr
  have hadr : adrB T.clients fr to_ = false := by cases h : adrB T.clients fr to_; rfl; exact absurd ((adrB_iff _ _ _).1 h) hgood
  have HG := Lib.hid (hG.fr hXf fun _ h => h.elim)
  have HRB := Lib.hid (ha.frn hXf)
  clear hT hT1 hXf hD hG ha hgood
  unfold adrB at hadr
  have hmin := fun ts ty w => run_min ts ty fr to_ w
  have hmax := fun ts ty w => run_max ts ty fr to_ w
  generalize minI fr to_ = mn at *
  generalize maxI fr to_ = mx at *
  obtain ⟨gA, gB, gC⟩ : ((fr == 0) == (to_ == 0)) = false ∧ decide (mn < 0) = false ∧ decide (T.clients < mx) = false := by simpa only [Bool.or_eq_false_iff, and_assoc] using hadr
  clear hadr
  unfold dgV
  have Hd0 := Lib.hid hd
  have Hp0 := proves_any m fr to_ (.slice A n c) sp
  have Hfr := Lib.hid fun w (h : TapAt w a r v e T) => fitsRec_any a r v e T m.rev m.op w h
  have Hfe := Lib.hid fun w (h : TapAt w a r v e T) => fitsEd_any a r v e T ⟨m.tag, m.op⟩ w h
  have HU1 := Lib.hid fun w (h : TapAt w a r v e T) => h.recs.update rec_under int_key m.rev m.op
  have HU2 := Lib.hid fun w (h : TapAt w a r v e { T with records := put T.records m.rev m.op }) => h.revs.update rev_under name_key (nameOf m.op) m.rev
  have HU3 := Lib.hid fun w (h : TapAt w a r v e T) => h.eds.update ed_under name_key (nameOf m.op) ⟨m.tag, m.op⟩
  have hmx := fun ts ty w => run_max ts ty T.epoch m.epoch w
  clear hd
  have hpv : provV m = .iface 78 (editV ⟨m.tag, m.op⟩) := by unfold provV; rw [if_neg (by omega), if_pos hk]
  rw [hpv] at Hp0
  have Hf0 : ∀ w, TapAt w a r v e T → Calls Tryd.prog 26 #[.pointer (some ⟨a, 0, none⟩), editV ⟨m.tag, m.op⟩] w fun ev w' => ev = .returned (.bool false) ∧ Fr None' w w' := fun w h => by rw [← hfit]; exact Hfe.out w h
  clear hpv Hfr Hfe hk hfit
  clear HU1 HU2 HU3 hmx
  rw [hw] at Hp0
  clear hw
  obtain ⟨k, ep, cl, hv, fi, nu, ac, rv, tg, ⟨ok, op, oc0, ol, os⟩⟩ := m
  dsimp only at *
  unfold msgV msgCells opCells dgV at Hp0
  simp only [List.cons_append, List.nil_append] at Hp0
  unfold editV opCells at Hp0 Hf0
  have Hp := Lib.hid Hp0
  have Hf := Lib.hid Hf0
  clear Hp0 Hf0
  go_enter Tryd.func12, Tryd.ntmps12
  go_wp2
  rw [← HX.out]
  go_quiet (fail)
  clear z1 z2 hmin hmax gA gB gC
  have HT1 := Lib.hid (HT.out.frn ((Fr.refl _ _).drewN nq))
  have HF1 := Lib.hid (HF.out.drewN nq)
  have hD1 := HD.out.drewN nq
  have HD1 := Lib.hid hD1
  have z2 : ∀ i, (X.drewN nq).cell? ⟨w.heap.size, i, none⟩ = (#[.int .i64 fr, .int .i64 to_, .slice A n c, .bool sp] : Array Value)[i]? := fun i => Blk.cell hD1 i
  have Hd := Lib.hid (decode_any B A n c xs (X.drewN nq) (HG.out.fr ((Fr.refl None' _).drewN nq) fun _ h => h.elim) (HRB.out.frn ((Fr.refl _ _).drewN nq)) hc)
  clear hD1
  generalize X.drewN nq = X1 at *
  unfold DecPost at Hd
  rw [Hd0.out] at Hd
  dsimp only at Hd
  unfold msgV msgCells opCells at Hd
  simp only [List.cons_append, List.nil_append] at Hd
  go_wp2_with fail
  refine Hd.out.mono ?_
  rintro e1 w2 ⟨rfl, hf2⟩
  dsimp only
  obtain ⟨X2, hX2⟩ : ∃ X2 : World, X2 = w2.alloc (.cells #[.int .i64 k, .int .i64 ep, .int .i64 cl, .int .i64 hv, .int .i64 fi, .int .i64 nu, .int .i64 ac, .int .i64 rv, .int .i64 tg, .int .i64 ok, .int .i64 op, .int .u8 (oc0.toNat : Int), .int .i64 ol, .int .i64 os] 25) := ⟨_, rfl⟩
  have HX2 := Lib.hid hX2
  have hx2 : Fr None' X1 X2 := by rw [hX2]; exact hf2.alloc _
  have hM : Blk X2 w2.heap.size 25 #[.int .i64 k, .int .i64 ep, .int .i64 cl, .int .i64 hv, .int .i64 fi, .int .i64 nu, .int .i64 ac, .int .i64 rv, .int .i64 tg, .int .i64 ok, .int .i64 op, .int .u8 (oc0.toNat : Int), .int .i64 ol, .int .i64 os] := by rw [hX2]; exact Blk.new _ _ _
  clear hX2 z2
  have z2 : ∀ i, X2.cell? ⟨w.heap.size, i, none⟩ = (#[.int .i64 fr, .int .i64 to_, .slice A n c, .bool sp] : Array Value)[i]? := fun i => Blk.cell (HD1.out.fr hx2 fun h => h) i
  have z3 : ∀ i, X2.cell? ⟨w2.heap.size, i, none⟩ = (#[.int .i64 k, .int .i64 ep, .int .i64 cl, .int .i64 hv, .int .i64 fi, .int .i64 nu, .int .i64 ac, .int .i64 rv, .int .i64 tg, .int .i64 ok, .int .i64 op, .int .u8 (oc0.toNat : Int), .int .i64 ol, .int .i64 os] : Array Value)[i]? := fun i => Blk.cell hM i
  have HF2 := Lib.hid (HF1.out.trans' hx2)
  have HT2 := Lib.hid (HT1.out.frn hx2)
  have HM := Lib.hid hM
  have z4 : ∀ i, w2.cell? ⟨w.heap.size, i, none⟩ = (#[.int .i64 fr, .int .i64 to_, .slice A n c, .bool sp] : Array Value)[i]? := fun i => Blk.cell (HD1.out.fr hf2 fun h => h) i
  have l2 : w.heap.size < w2.heap.size := (HD1.out.fr hf2 fun h => h).lt
  clear hx2 hM hf2 Hd
  go_wp2_with fail
  rw [← HX2.out]
  refine (Hp.out _).mono ?_
  rintro e2 w3 ⟨rfl, hf3⟩
  dsimp only
  have HF3 := Lib.hid (HF2.out.trans' hf3)
  have HT3 := Lib.hid (HT2.out.frn hf3)
  have HL2 := Lib.hid (show w.heap.size ≤ w2.heap.size by omega)
  have HL3 := Lib.hid HF3.out.size
  have HM3 := Lib.hid (HM.out.fr hf3 fun h => h)
  clear hf3 z2 z3 z4 HD1 HD HM HT2 HF2 HT1 HF1 HT HF
  have HK := Lib.hid (Blk.new w3 78 #[.int .i64 tg, .int .i64 ok, .int .i64 op, .int .u8 (oc0.toNat : Int), .int .i64 ol, .int .i64 os])
  have a1 := ta_told
  have a2 := ta_made5
  have a3 := ta_made
  go_wp2_with fail
  refine (Hf.out _ (HT3.out.frn ((Fr.refl _ _).alloc _))).mono ?_
  rintro e3 w4 ⟨rfl, hf4⟩
  dsimp only
  have HT4 := Lib.hid ((HT3.out.frn ((Fr.refl _ _).alloc _)).frn hf4)
  have HF4 := Lib.hid ((HF3.out.alloc _).trans' hf4)
  have HM4 := Lib.hid ((HM3.out.alloc _).fr hf4 fun h => h)
  have HK4 := Lib.hid (HK.out.fr hf4 fun h => h)
  have x1 : ∀ i, w4.cell? ⟨w3.heap.size, i, none⟩ = (#[.int .i64 tg, .int .i64 ok, .int .i64 op, .int .u8 (oc0.toNat : Int), .int .i64 ol, .int .i64 os] : Array Value)[i]? := fun i => Blk.cell HK4.out i
  clear hf4
  go_wp2_with (go_at_call 22; refine (He.out _ _ _).mono ?_; rintro e3 w5 ⟨g, rfl, hF, hf5⟩)
  go_ret
  exact ⟨_, rfl, .inr ⟨by simp, g, rfl, hF⟩, HT4.out.frn hf5, (HF4.out.trans' hf5).none⟩

set_option maxHeartbeats 16000000 in
theorem see_ed_true (B a r v e : Nat) (T : GTap) (fr to_ : Int) (A : Option Addr) (n c : Nat) (xs : List UInt8) (sp : Bool) (w : World) (hG : Glb B w) (hT : TapAt w a r v e T) (ha : RB w A n xs) (hc : n ≤ c) (hgood : ¬ badAdr T.clients fr to_) (m : GMsg) (hd : decF xs = .ok m) (hw : rightWay m fr to_ = true) (hk : m.kind = 2) (hfit : fitsEd T ⟨m.tag, m.op⟩ = true) :
    Calls Tryd.prog 12 #[.pointer (some ⟨a, 0, none⟩), dgV fr to_ (.slice A n c) sp] w fun ev w' => SeePost w a r v e ((0, 0), { T with epoch := maxI T.epoch m.epoch, edits := put T.edits (nameOf m.op) ⟨m.tag, m.op⟩ }) ev w' := by
  obtain ⟨X, hX⟩ : ∃ X : World, X = w.alloc (.cells #[.int .i64 fr, .int .i64 to_, .slice A n c, .bool sp] 33) := ⟨_, rfl⟩
  have HX := Lib.hid hX
  have hXf : Fr None' w X := by rw [hX]; exact (Fr.refl _ _).alloc _
  have hD : Blk X w.heap.size 33 #[.int .i64 fr, .int .i64 to_, .slice A n c, .bool sp] := by rw [hX]; exact Blk.new _ _ _
  clear hX
  have HTlt : ∀ k, Its a r v e k → k < w.heap.size := hT.lt
  have hT1 := hT.frn hXf
  have z1 := hT1.cells
  have z2 : ∀ i, X.cell? ⟨w.heap.size, i, none⟩ = (#[.int .i64 fr, .int .i64 to_, .slice A n c, .bool sp] : Array Value)[i]? := fun i => Blk.cell hD i
  have HT := Lib.hid hT1
  have HF := Lib.hid hXf
  have HD := Lib.hid hD
  have He := Lib.hid wrap_fr
  have hadr : adrB T.clients fr to_ = false := by cases h : adrB T.clients fr to_; rfl; exact absurd ((adrB_iff _ _ _).1 h) hgood
  have HG := Lib.hid (hG.fr hXf fun _ h => h.elim)
  have HRB := Lib.hid (ha.frn hXf)
  clear hT hT1 hXf hD hG ha hgood
  unfold adrB at hadr
  have hmin := fun ts ty w => run_min ts ty fr to_ w
  have hmax := fun ts ty w => run_max ts ty fr to_ w
  generalize minI fr to_ = mn at *
  generalize maxI fr to_ = mx at *
  obtain ⟨gA, gB, gC⟩ : ((fr == 0) == (to_ == 0)) = false ∧ decide (mn < 0) = false ∧ decide (T.clients < mx) = false := by simpa only [Bool.or_eq_false_iff, and_assoc] using hadr
  clear hadr
  unfold dgV
  have Hd0 := Lib.hid hd
  have Hp0 := proves_any m fr to_ (.slice A n c) sp
  have Hfr := Lib.hid fun w (h : TapAt w a r v e T) => fitsRec_any a r v e T m.rev m.op w h
  have Hfe := Lib.hid fun w (h : TapAt w a r v e T) => fitsEd_any a r v e T ⟨m.tag, m.op⟩ w h
  have HU1 := Lib.hid fun w (h : TapAt w a r v e T) => h.recs.update rec_under int_key m.rev m.op
  have HU2 := Lib.hid fun w (h : TapAt w a r v e { T with records := put T.records m.rev m.op }) => h.revs.update rev_under name_key (nameOf m.op) m.rev
  have HU3 := Lib.hid fun w (h : TapAt w a r v e T) => h.eds.update ed_under name_key (nameOf m.op) ⟨m.tag, m.op⟩
  have hmx := fun ts ty w => run_max ts ty T.epoch m.epoch w
  clear hd
  have hpv : provV m = .iface 78 (editV ⟨m.tag, m.op⟩) := by unfold provV; rw [if_neg (by omega), if_pos hk]
  rw [hpv] at Hp0
  have Hf0 : ∀ w, TapAt w a r v e T → Calls Tryd.prog 26 #[.pointer (some ⟨a, 0, none⟩), editV ⟨m.tag, m.op⟩] w fun ev w' => ev = .returned (.bool true) ∧ Fr None' w w' := fun w h => by rw [← hfit]; exact Hfe.out w h
  clear hpv Hfr Hfe hk hfit
  rw [hw] at Hp0
  clear hw
  obtain ⟨k, ep, cl, hv, fi, nu, ac, rv, tg, ⟨ok, op, oc0, ol, os⟩⟩ := m
  dsimp only at *
  unfold msgV msgCells opCells dgV at Hp0
  simp only [List.cons_append, List.nil_append] at Hp0
  unfold editV opCells at Hp0 Hf0
  have Hp := Lib.hid Hp0
  have Hf := Lib.hid Hf0
  clear Hp0 Hf0
  go_enter Tryd.func12, Tryd.ntmps12
  go_wp2
  rw [← HX.out]
  go_quiet (fail)
  clear z1 z2 hmin hmax gA gB gC
  have HT1 := Lib.hid (HT.out.frn ((Fr.refl _ _).drewN nq))
  have HF1 := Lib.hid (HF.out.drewN nq)
  have hD1 := HD.out.drewN nq
  have HD1 := Lib.hid hD1
  have z2 : ∀ i, (X.drewN nq).cell? ⟨w.heap.size, i, none⟩ = (#[.int .i64 fr, .int .i64 to_, .slice A n c, .bool sp] : Array Value)[i]? := fun i => Blk.cell hD1 i
  have Hd := Lib.hid (decode_any B A n c xs (X.drewN nq) (HG.out.fr ((Fr.refl None' _).drewN nq) fun _ h => h.elim) (HRB.out.frn ((Fr.refl _ _).drewN nq)) hc)
  clear hD1
  generalize X.drewN nq = X1 at *
  unfold DecPost at Hd
  rw [Hd0.out] at Hd
  dsimp only at Hd
  unfold msgV msgCells opCells at Hd
  simp only [List.cons_append, List.nil_append] at Hd
  go_wp2_with fail
  refine Hd.out.mono ?_
  rintro e1 w2 ⟨rfl, hf2⟩
  dsimp only
  obtain ⟨X2, hX2⟩ : ∃ X2 : World, X2 = w2.alloc (.cells #[.int .i64 k, .int .i64 ep, .int .i64 cl, .int .i64 hv, .int .i64 fi, .int .i64 nu, .int .i64 ac, .int .i64 rv, .int .i64 tg, .int .i64 ok, .int .i64 op, .int .u8 (oc0.toNat : Int), .int .i64 ol, .int .i64 os] 25) := ⟨_, rfl⟩
  have HX2 := Lib.hid hX2
  have hx2 : Fr None' X1 X2 := by rw [hX2]; exact hf2.alloc _
  have hM : Blk X2 w2.heap.size 25 #[.int .i64 k, .int .i64 ep, .int .i64 cl, .int .i64 hv, .int .i64 fi, .int .i64 nu, .int .i64 ac, .int .i64 rv, .int .i64 tg, .int .i64 ok, .int .i64 op, .int .u8 (oc0.toNat : Int), .int .i64 ol, .int .i64 os] := by rw [hX2]; exact Blk.new _ _ _
  clear hX2 z2
  have z2 : ∀ i, X2.cell? ⟨w.heap.size, i, none⟩ = (#[.int .i64 fr, .int .i64 to_, .slice A n c, .bool sp] : Array Value)[i]? := fun i => Blk.cell (HD1.out.fr hx2 fun h => h) i
  have z3 : ∀ i, X2.cell? ⟨w2.heap.size, i, none⟩ = (#[.int .i64 k, .int .i64 ep, .int .i64 cl, .int .i64 hv, .int .i64 fi, .int .i64 nu, .int .i64 ac, .int .i64 rv, .int .i64 tg, .int .i64 ok, .int .i64 op, .int .u8 (oc0.toNat : Int), .int .i64 ol, .int .i64 os] : Array Value)[i]? := fun i => Blk.cell hM i
  have HF2 := Lib.hid (HF1.out.trans' hx2)
  have HT2 := Lib.hid (HT1.out.frn hx2)
  have HM := Lib.hid hM
  have z4 : ∀ i, w2.cell? ⟨w.heap.size, i, none⟩ = (#[.int .i64 fr, .int .i64 to_, .slice A n c, .bool sp] : Array Value)[i]? := fun i => Blk.cell (HD1.out.fr hf2 fun h => h) i
  have l2 : w.heap.size < w2.heap.size := (HD1.out.fr hf2 fun h => h).lt
  clear hx2 hM hf2 Hd
  go_wp2_with fail
  rw [← HX2.out]
  refine (Hp.out _).mono ?_
  rintro e2 w3 ⟨rfl, hf3⟩
  dsimp only
  have HF3 := Lib.hid (HF2.out.trans' hf3)
  have HT3 := Lib.hid (HT2.out.frn hf3)
  have HL2 := Lib.hid (show w.heap.size ≤ w2.heap.size by omega)
  have HL3 := Lib.hid HF3.out.size
  have HM3 := Lib.hid (HM.out.fr hf3 fun h => h)
  clear hf3 z2 z3 z4 HD1 HD HM HT2 HF2 HT1 HF1 HT HF
  have HK := Lib.hid (Blk.new w3 78 #[.int .i64 tg, .int .i64 ok, .int .i64 op, .int .u8 (oc0.toNat : Int), .int .i64 ol, .int .i64 os])
  have a1 := ta_told
  have a2 := ta_made5
  have a3 := ta_made
  go_wp2_with fail
  refine (Hf.out _ (HT3.out.frn ((Fr.refl _ _).alloc _))).mono ?_
  rintro e3 w4 ⟨rfl, hf4⟩
  dsimp only
  have HT4 := Lib.hid ((HT3.out.frn ((Fr.refl _ _).alloc _)).frn hf4)
  have HF4 := Lib.hid ((HF3.out.alloc _).trans' hf4)
  have HM4 := Lib.hid ((HM3.out.alloc _).fr hf4 fun h => h)
  have HK4 := Lib.hid (HK.out.fr hf4 fun h => h)
  have x1 : ∀ i, w4.cell? ⟨w3.heap.size, i, none⟩ = (#[.int .i64 tg, .int .i64 ok, .int .i64 op, .int .u8 (oc0.toNat : Int), .int .i64 ol, .int .i64 os] : Array Value)[i]? := fun i => Blk.cell HK4.out i
  clear hf4
  go_wp2
  have x2 := HT4.out.cells
  have HI := Lib.hid HTlt
  obtain ⟨w5, hw5⟩ : ∃ x : World, x = mapSet nameV editV w4.drew e (put T.edits (ol, os) ⟨tg, ⟨ok, op, oc0, ol, os⟩⟩) := ⟨_, rfl⟩
  have hu : (Instr.mapUpdate ME (.map (some e)) (.agg #[.int .i64 ol, .int .i64 os]) (.agg #[.int .i64 tg, .int .i64 ok, .int .i64 op, .int .u8 (oc0.toNat : Int), .int .i64 ol, .int .i64 os])).run Tryd.prog w4.drew = .ok () w5 := by rw [hw5]; exact HU3.out _ (HT4.out.frn (Fr.refl _ _).drew)
  have HT5 := Lib.hid (show TapAt w5 a r v e _ by rw [hw5]; exact (HT4.out.frn (Fr.refl _ _).drew).upEd _)
  have HF5 := Lib.hid (show Fr (Its a r v e) w w5 by rw [hw5]; exact Fr.mapSet ((HF4.out.none).drew) (.inr (.inr (.inr (.inr rfl)))) _)
  have hgw5 : Fr (Its a r v e) w4 w5 := by rw [hw5]; exact Fr.mapSet ((Fr.refl _ _).drew) (.inr (.inr (.inr (.inr rfl)))) _
  clear hw5
  refine wp_region_tail 15 (by kernel_rfl) (by kernel_rfl) ?_
  simp only [List.take_succ_cons, List.take_zero, List.drop_succ_cons, List.drop_zero]
  repeat (go_big_quiet_step (fail))
  refine wpQuiet_nil ?_
  go_wp2
  have HM5 := Lib.hid (HM4.out.fr hgw5 (fun h => by have := HI.out _ h; have := HL2.out; omega))
  clear x1 x2 hu hgw5
  have y1 := HT5.out.cells
  have y2 := fun i => Blk.frozen HT5.out.blk i
  have y3 : ∀ i, w5.cell? ⟨w2.heap.size, i, none⟩ = (#[.int .i64 k, .int .i64 ep, .int .i64 cl, .int .i64 hv, .int .i64 fi, .int .i64 nu, .int .i64 ac, .int .i64 rv, .int .i64 tg, .int .i64 ok, .int .i64 op, .int .u8 (oc0.toNat : Int), .int .i64 ol, .int .i64 os] : Array Value)[i]? := fun i => Blk.cell HM5.out i
  refine wp_region_tail 10 (by kernel_rfl) (by kernel_rfl) ?_
  simp only [List.take_succ_cons, List.take_zero, List.drop_succ_cons, List.drop_zero]
  repeat (go_big_quiet_step (fail))
  refine wpQuiet_nil ?_
  go_wp2
  go_ret
  exact ⟨_, rfl, .inl ⟨rfl, rfl⟩, (HT5.out.frn (Fr.refl _ _).drew).upEpoch _, (HF5.out.drew).setCell (.inr (.inl rfl)) _⟩

end Go.Proofs.YtodkhoclbhdihaaDoor
