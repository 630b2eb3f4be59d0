/-
  Contract of tap's See: messages that go the right way.
-/
import Derived.Test.YtodkhoclbhdihaaGreatDoorZ10
import Derived.Test.YtodkhoclbhdihaaGreatDoorZ0
import Derived.Test.YtodkhoclbhdihaaGreatDoorZ3
namespace Go.Proofs.YtodkhoclbhdihaaGreatDoor
open Go.RowKit

def zTold : Value := .agg #[.int .i64 0, .int .i64 0, .int .i64 0, .int .u8 0, .int .i64 0, .int .i64 0]
theorem ta_nil5 (w : World) : (Instr.typeAssert .nilIface 20 122 true).run Tryz.prog w = .ok (.tuple #[zTold, .bool false]) w := by kernel_rfl
theorem ta_nil2 (w : World) : (Instr.typeAssert .nilIface 20 125 true).run Tryz.prog w = .ok (.tuple #[zTold, .bool false]) w := by kernel_rfl
theorem ta_told (x : Value) (w : World) : (Instr.typeAssert (.iface 122 x) 20 122 true).run Tryz.prog w = .ok (.tuple #[x, .bool true]) w := by kernel_rfl
theorem ta_made5 (x : Value) (w : World) : (Instr.typeAssert (.iface 125 x) 20 122 true).run Tryz.prog w = .ok (.tuple #[zTold, .bool false]) w := by kernel_rfl
theorem ta_made (x : Value) (w : World) : (Instr.typeAssert (.iface 125 x) 20 125 true).run Tryz.prog w = .ok (.tuple #[x, .bool true]) w := by kernel_rfl

set_option maxHeartbeats 16000000 in
theorem see_other (B a r v e : Nat) (T : GTap) (fr to_ : Int) (A : Option Addr) (n c : Nat) (xs : List UInt8) (sp : Bool) (w : World) (hG : Glb B w) (hT : TapAt w a r v e T) (ha : RB w A n xs) (hc : n ≤ c) (hgood : ¬ badAdr T.clients fr to_) (m : GMsg) (hd : decF xs = .ok m) (hw : rightWay m fr to_ = true) (h5 : m.kind ≠ 5) (h2 : m.kind ≠ 2) :
    Calls Tryz.prog 37 #[.pointer (some ⟨a, 0, none⟩), dgV fr to_ (.slice A n c) sp] w fun ev w' => SeePost w a r v e ((0, 0), { T with epoch := maxI T.epoch m.epoch }) ev w' := by
  obtain ⟨X, hX⟩ : ∃ X : World, X = w.alloc (.cells #[.int .i64 fr, .int .i64 to_, .slice A n c, .bool sp] 60) := ⟨_, rfl⟩
  have HX := Lib.hid hX
  have hXf : Fr None' w X := by rw [hX]; exact (Fr.refl _ _).alloc _
  have hD : Blk X w.heap.size 60 #[.int .i64 fr, .int .i64 to_, .slice A n c, .bool sp] := by rw [hX]; exact Blk.new _ _ _
  clear hX
  have HTlt : ∀ k, Its a r v e k → k < w.heap.size := hT.lt
  have hT1 := hT.frn hXf
  have z1 := hT1.cells
  have z2 : ∀ i, X.cell? ⟨w.heap.size, i, none⟩ = (#[.int .i64 fr, .int .i64 to_, .slice A n c, .bool sp] : Array Value)[i]? := fun i => Blk.cell hD i
  have HT := Lib.hid hT1
  have HF := Lib.hid hXf
  have HD := Lib.hid hD
  have He := Lib.hid wrap_fr
  have hadr : adrB T.clients fr to_ = false := by cases h : adrB T.clients fr to_; rfl; exact absurd ((adrB_iff _ _ _).1 h) hgood
  have HG := Lib.hid (hG.fr hXf fun _ h => h.elim)
  have HRB := Lib.hid (ha.frn hXf)
  clear hT hT1 hXf hD hG ha hgood
  unfold adrB at hadr
  have hmin := fun ts ty w => run_min ts ty fr to_ w
  have hmax := fun ts ty w => run_max ts ty fr to_ w
  generalize minI fr to_ = mn at *
  generalize maxI fr to_ = mx at *
  obtain ⟨gA, gB, gC⟩ : ((fr == 0) == (to_ == 0)) = false ∧ decide (mn < 0) = false ∧ decide (T.clients < mx) = false := by simpa only [Bool.or_eq_false_iff, and_assoc] using hadr
  clear hadr
  unfold dgV
  have Hd0 := Lib.hid hd
  have Hp0 := proves_any m fr to_ (.slice A n c) sp
  have Hfr := Lib.hid fun w (h : TapAt w a r v e T) => fitsRec_any a r v e T m.rev m.op w h
  have Hfe := Lib.hid fun w (h : TapAt w a r v e T) => fitsEd_any a r v e T ⟨m.tag, m.op⟩ w h
  have HU1 := Lib.hid fun w (h : TapAt w a r v e T) => h.recs.update rec_under int_key m.rev m.op
  have HU2 := Lib.hid fun w (h : TapAt w a r v e { T with records := put T.records m.rev m.op }) => h.revs.update rev_under name_key (nameOf m.op) m.rev
  have HU3 := Lib.hid fun w (h : TapAt w a r v e T) => h.eds.update ed_under name_key (nameOf m.op) ⟨m.tag, m.op⟩
  have hmx := fun ts ty w => run_max ts ty T.epoch m.epoch w
  clear hd
  have hpv : provV m = .nilIface := by unfold provV; rw [if_neg h5, if_neg h2]
  rw [hpv] at Hp0
  clear hpv Hfr Hfe HU1 HU2 HU3 h5 h2
  rw [hw] at Hp0
  clear hw
  obtain ⟨k, ep, cl, hv, fi, nu, ac, rv, tg, ⟨ok, op, oc0, ol, os⟩⟩ := m
  dsimp only at *
  unfold msgV msgCells opCells dgV at Hp0
  simp only [List.cons_append, List.nil_append] at Hp0
  have Hp := Lib.hid Hp0
  clear Hp0
  go_enter Tryz.func37, Tryz.ntmps37
  go_wp2
  rw [← HX.out]
  go_quiet (fail)
  clear z1 z2 hmin hmax gA gB gC
  have HT1 := Lib.hid (HT.out.frn ((Fr.refl _ _).drewN nq))
  have HF1 := Lib.hid (HF.out.drewN nq)
  have hD1 := HD.out.drewN nq
  have HD1 := Lib.hid hD1
  have z2 : ∀ i, (X.drewN nq).cell? ⟨w.heap.size, i, none⟩ = (#[.int .i64 fr, .int .i64 to_, .slice A n c, .bool sp] : Array Value)[i]? := fun i => Blk.cell hD1 i
  have Hd := Lib.hid (decode_any B A n c xs (X.drewN nq) (HG.out.fr ((Fr.refl None' _).drewN nq) fun _ h => h.elim) (HRB.out.frn ((Fr.refl _ _).drewN nq)) hc)
  clear hD1
  generalize X.drewN nq = X1 at *
  unfold DecPost at Hd
  rw [Hd0.out] at Hd
  dsimp only at Hd
  unfold msgV msgCells opCells at Hd
  simp only [List.cons_append, List.nil_append] at Hd
  go_wp2_with fail
  refine Hd.out.mono ?_
  rintro e1 w2 ⟨rfl, hf2⟩
  dsimp only
  obtain ⟨X2, hX2⟩ : ∃ X2 : World, X2 = w2.alloc (.cells #[.int .i64 k, .int .i64 ep, .int .i64 cl, .int .i64 hv, .int .i64 fi, .int .i64 nu, .int .i64 ac, .int .i64 rv, .int .i64 tg, .int .i64 ok, .int .i64 op, .int .u8 (oc0.toNat : Int), .int .i64 ol, .int .i64 os] 28) := ⟨_, rfl⟩
  have HX2 := Lib.hid hX2
  have hx2 : Fr None' X1 X2 := by rw [hX2]; exact hf2.alloc _
  have hM : Blk X2 w2.heap.size 28 #[.int .i64 k, .int .i64 ep, .int .i64 cl, .int .i64 hv, .int .i64 fi, .int .i64 nu, .int .i64 ac, .int .i64 rv, .int .i64 tg, .int .i64 ok, .int .i64 op, .int .u8 (oc0.toNat : Int), .int .i64 ol, .int .i64 os] := by rw [hX2]; exact Blk.new _ _ _
  clear hX2 z2
  have z2 : ∀ i, X2.cell? ⟨w.heap.size, i, none⟩ = (#[.int .i64 fr, .int .i64 to_, .slice A n c, .bool sp] : Array Value)[i]? := fun i => Blk.cell (HD1.out.fr hx2 fun h => h) i
  have z3 : ∀ i, X2.cell? ⟨w2.heap.size, i, none⟩ = (#[.int .i64 k, .int .i64 ep, .int .i64 cl, .int .i64 hv, .int .i64 fi, .int .i64 nu, .int .i64 ac, .int .i64 rv, .int .i64 tg, .int .i64 ok, .int .i64 op, .int .u8 (oc0.toNat : Int), .int .i64 ol, .int .i64 os] : Array Value)[i]? := fun i => Blk.cell hM i
  have HF2 := Lib.hid (HF1.out.trans' hx2)
  have HT2 := Lib.hid (HT1.out.frn hx2)
  have HM := Lib.hid hM
  have z4 : ∀ i, w2.cell? ⟨w.heap.size, i, none⟩ = (#[.int .i64 fr, .int .i64 to_, .slice A n c, .bool sp] : Array Value)[i]? := fun i => Blk.cell (HD1.out.fr hf2 fun h => h) i
  have l2 : w.heap.size < w2.heap.size := (HD1.out.fr hf2 fun h => h).lt
  clear hx2 hM hf2 Hd
  go_wp2_with fail
  rw [← HX2.out]
  refine (Hp.out _).mono ?_
  rintro e2 w3 ⟨rfl, hf3⟩
  dsimp only
  have HF3 := Lib.hid (HF2.out.trans' hf3)
  have HT3 := Lib.hid (HT2.out.frn hf3)
  have HL2 := Lib.hid (show w.heap.size ≤ w2.heap.size by omega)
  have HL3 := Lib.hid HF3.out.size
  have HM3 := Lib.hid (HM.out.fr hf3 fun h => h)
  clear hf3 z2 z3 z4 HD1 HD HM HT2 HF2 HT1 HF1 HT HF
  have a1 := ta_nil5
  have a2 := ta_nil2
  go_wp2
  clear a1 a2
  have y1 := HT3.out.cells
  have y2 := fun i => Blk.frozen HT3.out.blk i
  have y3 : ∀ i, w3.cell? ⟨w2.heap.size, i, none⟩ = (#[.int .i64 k, .int .i64 ep, .int .i64 cl, .int .i64 hv, .int .i64 fi, .int .i64 nu, .int .i64 ac, .int .i64 rv, .int .i64 tg, .int .i64 ok, .int .i64 op, .int .u8 (oc0.toNat : Int), .int .i64 ol, .int .i64 os] : Array Value)[i]? := fun i => Blk.cell HM3.out i
  refine wp_region_tail 10 (by kernel_rfl) (by kernel_rfl) ?_
  simp only [List.take_succ_cons, List.take_zero, List.drop_succ_cons, List.drop_zero]
  repeat (go_big_quiet_step (fail))
  refine wpQuiet_nil ?_
  go_wp2
  go_ret
  exact ⟨_, rfl, .inl ⟨rfl, rfl⟩, (HT3.out.frn (Fr.refl _ _).drew).upEpoch _, (HF3.out.none.drew).setCell (.inr (.inl rfl)) _⟩

set_option maxHeartbeats 16000000 in
theorem see_rec_false (B a r v e : Nat) (T : GTap) (fr to_ : Int) (A : Option Addr) (n c : Nat) (xs : List UInt8) (sp : Bool) (w : World) (hG : Glb B w) (hT : TapAt w a r v e T) (ha : RB w A n xs) (hc : n ≤ c) (hgood : ¬ badAdr T.clients fr to_) (m : GMsg) (hd : decF xs = .ok m) (hw : rightWay m fr to_ = true) (hk : m.kind = 5) (hfit : fitsRec T m.rev m.op = false) :
    Calls Tryz.prog 37 #[.pointer (some ⟨a, 0, none⟩), dgV fr to_ (.slice A n c) sp] w fun ev w' => SeePost w a r v e ((280, m.rev), T) ev w' := by
  obtain ⟨X, hX⟩ : ∃ X : World, X = w.alloc (.cells #[.int .i64 fr, .int .i64 to_, .slice A n c, .bool sp] 60) := ⟨_, rfl⟩
  have HX := Lib.hid hX
  have hXf : Fr None' w X := by rw [hX]; exact (Fr.refl _ _).alloc _
  have hD : Blk X w.heap.size 60 #[.int .i64 fr, .int .i64 to_, .slice A n c, .bool sp] := by rw [hX]; exact Blk.new _ _ _
  clear hX
  have HTlt : ∀ k, Its a r v e k → k < w.heap.size := hT.lt
  have hT1 := hT.frn hXf
  have z1 := hT1.cells
  have z2 : ∀ i, X.cell? ⟨w.heap.size, i, none⟩ = (#[.int .i64 fr, .int .i64 to_, .slice A n c, .bool sp] : Array Value)[i]? := fun i => Blk.cell hD i
  have HT := Lib.hid hT1
  have HF := Lib.hid hXf
  have HD := Lib.hid hD
  have He := Lib.hid wrap_fr
  have hadr : adrB T.clients fr to_ = false := by cases h : adrB T.clients fr to_; rfl; exact absurd ((adrB_iff _ _ _).1 h) hgood
  have HG := Lib.hid (hG.fr hXf fun _ h => h.elim)
  have HRB := Lib.hid (ha.frn hXf)
  clear hT hT1 hXf hD hG ha hgood
  unfold adrB at hadr
  have hmin := fun ts ty w => run_min ts ty fr to_ w
  have hmax := fun ts ty w => run_max ts ty fr to_ w
  generalize minI fr to_ = mn at *
  generalize maxI fr to_ = mx at *
  obtain ⟨gA, gB, gC⟩ : ((fr == 0) == (to_ == 0)) = false ∧ decide (mn < 0) = false ∧ decide (T.clients < mx) = false := by simpa only [Bool.or_eq_false_iff, and_assoc] using hadr
  clear hadr
  unfold dgV
  have Hd0 := Lib.hid hd
  have Hp0 := proves_any m fr to_ (.slice A n c) sp
  have Hfr := Lib.hid fun w (h : TapAt w a r v e T) => fitsRec_any a r v e T m.rev m.op w h
  have Hfe := Lib.hid fun w (h : TapAt w a r v e T) => fitsEd_any a r v e T ⟨m.tag, m.op⟩ w h
  have HU1 := Lib.hid fun w (h : TapAt w a r v e T) => h.recs.update rec_under int_key m.rev m.op
  have HU2 := Lib.hid fun w (h : TapAt w a r v e { T with records := put T.records m.rev m.op }) => h.revs.update rev_under name_key (nameOf m.op) m.rev
  have HU3 := Lib.hid fun w (h : TapAt w a r v e T) => h.eds.update ed_under name_key (nameOf m.op) ⟨m.tag, m.op⟩
  have hmx := fun ts ty w => run_max ts ty T.epoch m.epoch w
  clear hd
  have hpv : provV m = .iface 122 (toldV m.rev m.op) := by unfold provV; rw [if_pos hk]
  rw [hpv] at Hp0
  have Hf0 : ∀ w, TapAt w a r v e T → Calls Tryz.prog 64 #[.pointer (some ⟨a, 0, none⟩), toldV m.rev m.op] w fun ev w' => ev = .returned (.bool false) ∧ Fr None' w w' := fun w h => by rw [← hfit]; exact Hfr.out w h
  clear hpv Hfr Hfe hk hfit
  clear HU1 HU2 HU3 hmx
  rw [hw] at Hp0
  clear hw
  obtain ⟨k, ep, cl, hv, fi, nu, ac, rv, tg, ⟨ok, op, oc0, ol, os⟩⟩ := m
  dsimp only at *
  unfold msgV msgCells opCells dgV at Hp0
  simp only [List.cons_append, List.nil_append] at Hp0
  unfold toldV opCells at Hp0 Hf0
  have Hp := Lib.hid Hp0
  have Hf := Lib.hid Hf0
  clear Hp0 Hf0
  go_enter Tryz.func37, Tryz.ntmps37
  go_wp2
  rw [← HX.out]
  go_quiet (fail)
  clear z1 z2 hmin hmax gA gB gC
  have HT1 := Lib.hid (HT.out.frn ((Fr.refl _ _).drewN nq))
  have HF1 := Lib.hid (HF.out.drewN nq)
  have hD1 := HD.out.drewN nq
  have HD1 := Lib.hid hD1
  have z2 : ∀ i, (X.drewN nq).cell? ⟨w.heap.size, i, none⟩ = (#[.int .i64 fr, .int .i64 to_, .slice A n c, .bool sp] : Array Value)[i]? := fun i => Blk.cell hD1 i
  have Hd := Lib.hid (decode_any B A n c xs (X.drewN nq) (HG.out.fr ((Fr.refl None' _).drewN nq) fun _ h => h.elim) (HRB.out.frn ((Fr.refl _ _).drewN nq)) hc)
  clear hD1
  generalize X.drewN nq = X1 at *
  unfold DecPost at Hd
  rw [Hd0.out] at Hd
  dsimp only at Hd
  unfold msgV msgCells opCells at Hd
  simp only [List.cons_append, List.nil_append] at Hd
  go_wp2_with fail
  refine Hd.out.mono ?_
  rintro e1 w2 ⟨rfl, hf2⟩
  dsimp only
  obtain ⟨X2, hX2⟩ : ∃ X2 : World, X2 = w2.alloc (.cells #[.int .i64 k, .int .i64 ep, .int .i64 cl, .int .i64 hv, .int .i64 fi, .int .i64 nu, .int .i64 ac, .int .i64 rv, .int .i64 tg, .int .i64 ok, .int .i64 op, .int .u8 (oc0.toNat : Int), .int .i64 ol, .int .i64 os] 28) := ⟨_, rfl⟩
  have HX2 := Lib.hid hX2
  have hx2 : Fr None' X1 X2 := by rw [hX2]; exact hf2.alloc _
  have hM : Blk X2 w2.heap.size 28 #[.int .i64 k, .int .i64 ep, .int .i64 cl, .int .i64 hv, .int .i64 fi, .int .i64 nu, .int .i64 ac, .int .i64 rv, .int .i64 tg, .int .i64 ok, .int .i64 op, .int .u8 (oc0.toNat : Int), .int .i64 ol, .int .i64 os] := by rw [hX2]; exact Blk.new _ _ _
  clear hX2 z2
  have z2 : ∀ i, X2.cell? ⟨w.heap.size, i, none⟩ = (#[.int .i64 fr, .int .i64 to_, .slice A n c, .bool sp] : Array Value)[i]? := fun i => Blk.cell (HD1.out.fr hx2 fun h => h) i
  have z3 : ∀ i, X2.cell? ⟨w2.heap.size, i, none⟩ = (#[.int .i64 k, .int .i64 ep, .int .i64 cl, .int .i64 hv, .int .i64 fi, .int .i64 nu, .int .i64 ac, .int .i64 rv, .int .i64 tg, .int .i64 ok, .int .i64 op, .int .u8 (oc0.toNat : Int), .int .i64 ol, .int .i64 os] : Array Value)[i]? := fun i => Blk.cell hM i
  have HF2 := Lib.hid (HF1.out.trans' hx2)
  have HT2 := Lib.hid (HT1.out.frn hx2)
  have HM := Lib.hid hM
  have z4 : ∀ i, w2.cell? ⟨w.heap.size, i, none⟩ = (#[.int .i64 fr, .int .i64 to_, .slice A n c, .bool sp] : Array Value)[i]? := fun i => Blk.cell (HD1.out.fr hf2 fun h => h) i
  have l2 : w.heap.size < w2.heap.size := (HD1.out.fr hf2 fun h => h).lt
  clear hx2 hM hf2 Hd
  go_wp2_with fail
  rw [← HX2.out]
  refine (Hp.out _).mono ?_
  rintro e2 w3 ⟨rfl, hf3⟩
  dsimp only
  have HF3 := Lib.hid (HF2.out.trans' hf3)
  have HT3 := Lib.hid (HT2.out.frn hf3)
  have HL2 := Lib.hid (show w.heap.size ≤ w2.heap.size by omega)
  have HL3 := Lib.hid HF3.out.size
  have HM3 := Lib.hid (HM.out.fr hf3 fun h => h)
  clear hf3 z2 z3 z4 HD1 HD HM HT2 HF2 HT1 HF1 HT HF
  have HK := Lib.hid (Blk.new w3 122 #[.int .i64 rv, .int .i64 ok, .int .i64 op, .int .u8 (oc0.toNat : Int), .int .i64 ol, .int .i64 os])
  have a1 := ta_told
  have a2 := ta_made5
  have a3 := ta_made
  go_wp2_with fail
  refine (Hf.out _ (HT3.out.frn ((Fr.refl _ _).alloc _))).mono ?_
  rintro e3 w4 ⟨rfl, hf4⟩
  dsimp only
  have HT4 := Lib.hid ((HT3.out.frn ((Fr.refl _ _).alloc _)).frn hf4)
  have HF4 := Lib.hid ((HF3.out.alloc _).trans' hf4)
  have HM4 := Lib.hid ((HM3.out.alloc _).fr hf4 fun h => h)
  have HK4 := Lib.hid (HK.out.fr hf4 fun h => h)
  have x1 : ∀ i, w4.cell? ⟨w3.heap.size, i, none⟩ = (#[.int .i64 rv, .int .i64 ok, .int .i64 op, .int .u8 (oc0.toNat : Int), .int .i64 ol, .int .i64 os] : Array Value)[i]? := fun i => Blk.cell HK4.out i
  clear hf4
  go_wp2_with (go_at_call 62; refine (He.out _ _ _).mono ?_; rintro e3 w5 ⟨g, rfl, hF, hf5⟩)
  go_ret
  exact ⟨_, rfl, .inr ⟨by simp, g, rfl, hF⟩, HT4.out.frn hf5, (HF4.out.trans' hf5).none⟩

set_option maxHeartbeats 16000000 in
theorem see_rec_true (B a r v e : Nat) (T : GTap) (fr to_ : Int) (A : Option Addr) (n c : Nat) (xs : List UInt8) (sp : Bool) (w : World) (hG : Glb B w) (hT : TapAt w a r v e T) (ha : RB w A n xs) (hc : n ≤ c) (hgood : ¬ badAdr T.clients fr to_) (m : GMsg) (hd : decF xs = .ok m) (hw : rightWay m fr to_ = true) (hk : m.kind = 5) (hfit : fitsRec T m.rev m.op = true) :
    Calls Tryz.prog 37 #[.pointer (some ⟨a, 0, none⟩), dgV fr to_ (.slice A n c) sp] w fun ev w' => SeePost w a r v e ((0, 0), { T with epoch := maxI T.epoch m.epoch, records := put T.records m.rev m.op, revs := put T.revs (nameOf m.op) m.rev }) ev w' := by
  obtain ⟨X, hX⟩ : ∃ X : World, X = w.alloc (.cells #[.int .i64 fr, .int .i64 to_, .slice A n c, .bool sp] 60) := ⟨_, rfl⟩
  have HX := Lib.hid hX
  have hXf : Fr None' w X := by rw [hX]; exact (Fr.refl _ _).alloc _
  have hD : Blk X w.heap.size 60 #[.int .i64 fr, .int .i64 to_, .slice A n c, .bool sp] := by rw [hX]; exact Blk.new _ _ _
  clear hX
  have HTlt : ∀ k, Its a r v e k → k < w.heap.size := hT.lt
  have hT1 := hT.frn hXf
  have z1 := hT1.cells
  have z2 : ∀ i, X.cell? ⟨w.heap.size, i, none⟩ = (#[.int .i64 fr, .int .i64 to_, .slice A n c, .bool sp] : Array Value)[i]? := fun i => Blk.cell hD i
  have HT := Lib.hid hT1
  have HF := Lib.hid hXf
  have HD := Lib.hid hD
  have He := Lib.hid wrap_fr
  have hadr : adrB T.clients fr to_ = false := by cases h : adrB T.clients fr to_; rfl; exact absurd ((adrB_iff _ _ _).1 h) hgood
  have HG := Lib.hid (hG.fr hXf fun _ h => h.elim)
  have HRB := Lib.hid (ha.frn hXf)
  clear hT hT1 hXf hD hG ha hgood
  unfold adrB at hadr
  have hmin := fun ts ty w => run_min ts ty fr to_ w
  have hmax := fun ts ty w => run_max ts ty fr to_ w
  generalize minI fr to_ = mn at *
  generalize maxI fr to_ = mx at *
  obtain ⟨gA, gB, gC⟩ : ((fr == 0) == (to_ == 0)) = false ∧ decide (mn < 0) = false ∧ decide (T.clients < mx) = false := by simpa only [Bool.or_eq_false_iff, and_assoc] using hadr
  clear hadr
  unfold dgV
  have Hd0 := Lib.hid hd
  have Hp0 := proves_any m fr to_ (.slice A n c) sp
  have Hfr := Lib.hid fun w (h : TapAt w a r v e T) => fitsRec_any a r v e T m.rev m.op w h
  have Hfe := Lib.hid fun w (h : TapAt w a r v e T) => fitsEd_any a r v e T ⟨m.tag, m.op⟩ w h
  have HU1 := Lib.hid fun w (h : TapAt w a r v e T) => h.recs.update rec_under int_key m.rev m.op
  have HU2 := Lib.hid fun w (h : TapAt w a r v e { T with records := put T.records m.rev m.op }) => h.revs.update rev_under name_key (nameOf m.op) m.rev
  have HU3 := Lib.hid fun w (h : TapAt w a r v e T) => h.eds.update ed_under name_key (nameOf m.op) ⟨m.tag, m.op⟩
  have hmx := fun ts ty w => run_max ts ty T.epoch m.epoch w
  clear hd
  have hpv : provV m = .iface 122 (toldV m.rev m.op) := by unfold provV; rw [if_pos hk]
  rw [hpv] at Hp0
  have Hf0 : ∀ w, TapAt w a r v e T → Calls Tryz.prog 64 #[.pointer (some ⟨a, 0, none⟩), toldV m.rev m.op] w fun ev w' => ev = .returned (.bool true) ∧ Fr None' w w' := fun w h => by rw [← hfit]; exact Hfr.out w h
  clear hpv Hfr Hfe hk hfit
  rw [hw] at Hp0
  clear hw
  obtain ⟨k, ep, cl, hv, fi, nu, ac, rv, tg, ⟨ok, op, oc0, ol, os⟩⟩ := m
  dsimp only at *
  unfold msgV msgCells opCells dgV at Hp0
  simp only [List.cons_append, List.nil_append] at Hp0
  unfold toldV opCells at Hp0 Hf0
  have Hp := Lib.hid Hp0
  have Hf := Lib.hid Hf0
  clear Hp0 Hf0
  go_enter Tryz.func37, Tryz.ntmps37
  go_wp2
  rw [← HX.out]
  go_quiet (fail)
  clear z1 z2 hmin hmax gA gB gC
  have HT1 := Lib.hid (HT.out.frn ((Fr.refl _ _).drewN nq))
  have HF1 := Lib.hid (HF.out.drewN nq)
  have hD1 := HD.out.drewN nq
  have HD1 := Lib.hid hD1
  have z2 : ∀ i, (X.drewN nq).cell? ⟨w.heap.size, i, none⟩ = (#[.int .i64 fr, .int .i64 to_, .slice A n c, .bool sp] : Array Value)[i]? := fun i => Blk.cell hD1 i
  have Hd := Lib.hid (decode_any B A n c xs (X.drewN nq) (HG.out.fr ((Fr.refl None' _).drewN nq) fun _ h => h.elim) (HRB.out.frn ((Fr.refl _ _).drewN nq)) hc)
  clear hD1
  generalize X.drewN nq = X1 at *
  unfold DecPost at Hd
  rw [Hd0.out] at Hd
  dsimp only at Hd
  unfold msgV msgCells opCells at Hd
  simp only [List.cons_append, List.nil_append] at Hd
  go_wp2_with fail
  refine Hd.out.mono ?_
  rintro e1 w2 ⟨rfl, hf2⟩
  dsimp only
  obtain ⟨X2, hX2⟩ : ∃ X2 : World, X2 = w2.alloc (.cells #[.int .i64 k, .int .i64 ep, .int .i64 cl, .int .i64 hv, .int .i64 fi, .int .i64 nu, .int .i64 ac, .int .i64 rv, .int .i64 tg, .int .i64 ok, .int .i64 op, .int .u8 (oc0.toNat : Int), .int .i64 ol, .int .i64 os] 28) := ⟨_, rfl⟩
  have HX2 := Lib.hid hX2
  have hx2 : Fr None' X1 X2 := by rw [hX2]; exact hf2.alloc _
  have hM : Blk X2 w2.heap.size 28 #[.int .i64 k, .int .i64 ep, .int .i64 cl, .int .i64 hv, .int .i64 fi, .int .i64 nu, .int .i64 ac, .int .i64 rv, .int .i64 tg, .int .i64 ok, .int .i64 op, .int .u8 (oc0.toNat : Int), .int .i64 ol, .int .i64 os] := by rw [hX2]; exact Blk.new _ _ _
  clear hX2 z2
  have z2 : ∀ i, X2.cell? ⟨w.heap.size, i, none⟩ = (#[.int .i64 fr, .int .i64 to_, .slice A n c, .bool sp] : Array Value)[i]? := fun i => Blk.cell (HD1.out.fr hx2 fun h => h) i
  have z3 : ∀ i, X2.cell? ⟨w2.heap.size, i, none⟩ = (#[.int .i64 k, .int .i64 ep, .int .i64 cl, .int .i64 hv, .int .i64 fi, .int .i64 nu, .int .i64 ac, .int .i64 rv, .int .i64 tg, .int .i64 ok, .int .i64 op, .int .u8 (oc0.toNat : Int), .int .i64 ol, .int .i64 os] : Array Value)[i]? := fun i => Blk.cell hM i
  have HF2 := Lib.hid (HF1.out.trans' hx2)
  have HT2 := Lib.hid (HT1.out.frn hx2)
  have HM := Lib.hid hM
  have z4 : ∀ i, w2.cell? ⟨w.heap.size, i, none⟩ = (#[.int .i64 fr, .int .i64 to_, .slice A n c, .bool sp] : Array Value)[i]? := fun i => Blk.cell (HD1.out.fr hf2 fun h => h) i
  have l2 : w.heap.size < w2.heap.size := (HD1.out.fr hf2 fun h => h).lt
  clear hx2 hM hf2 Hd
  go_wp2_with fail
  rw [← HX2.out]
  refine (Hp.out _).mono ?_
  rintro e2 w3 ⟨rfl, hf3⟩
  dsimp only
  have HF3 := Lib.hid (HF2.out.trans' hf3)
  have HT3 := Lib.hid (HT2.out.frn hf3)
  have HL2 := Lib.hid (show w.heap.size ≤ w2.heap.size by omega)
  have HL3 := Lib.hid HF3.out.size
  have HM3 := Lib.hid (HM.out.fr hf3 fun h => h)
  clear hf3 z2 z3 z4 HD1 HD HM HT2 HF2 HT1 HF1 HT HF
  have HK := Lib.hid (Blk.new w3 122 #[.int .i64 rv, .int .i64 ok, .int .i64 op, .int .u8 (oc0.toNat : Int), .int .i64 ol, .int .i64 os])
  have a1 := ta_told
  have a2 := ta_made5
  have a3 := ta_made
  go_wp2_with fail
  refine (Hf.out _ (HT3.out.frn ((Fr.refl _ _).alloc _))).mono ?_
  rintro e3 w4 ⟨rfl, hf4⟩
  dsimp only
  have HT4 := Lib.hid ((HT3.out.frn ((Fr.refl _ _).alloc _)).frn hf4)
  have HF4 := Lib.hid ((HF3.out.alloc _).trans' hf4)
  have HM4 := Lib.hid ((HM3.out.alloc _).fr hf4 fun h => h)
  have HK4 := Lib.hid (HK.out.fr hf4 fun h => h)
  have x1 : ∀ i, w4.cell? ⟨w3.heap.size, i, none⟩ = (#[.int .i64 rv, .int .i64 ok, .int .i64 op, .int .u8 (oc0.toNat : Int), .int .i64 ol, .int .i64 os] : Array Value)[i]? := fun i => Blk.cell HK4.out i
  clear hf4
  go_wp2
  have x2 := HT4.out.cells
  have HI := Lib.hid HTlt
  obtain ⟨w5, hw5⟩ : ∃ x : World, x = mapSet vi opV w4.drew r (put T.records rv ⟨ok, op, oc0, ol, os⟩) := ⟨_, rfl⟩
  have hu : (Instr.mapUpdate MR (.map (some r)) (.int .i64 rv) (.agg #[.int .i64 ok, .int .i64 op, .int .u8 (oc0.toNat : Int), .int .i64 ol, .int .i64 os])).run Tryz.prog w4.drew = .ok () w5 := by rw [hw5]; exact HU1.out _ (HT4.out.frn (Fr.refl _ _).drew)
  have HT5 := Lib.hid (show TapAt w5 a r v e _ by rw [hw5]; exact (HT4.out.frn (Fr.refl _ _).drew).upRec _)
  have HF5 := Lib.hid (show Fr (Its a r v e) w w5 by rw [hw5]; exact Fr.mapSet ((HF4.out.none).drew) (.inr (.inr (.inl rfl))) _)
  have hgw5 : Fr (Its a r v e) w4 w5 := by rw [hw5]; exact Fr.mapSet ((Fr.refl _ _).drew) (.inr (.inr (.inl rfl))) _
  clear hw5
  refine wp_region_tail 8 (by kernel_rfl) (by kernel_rfl) ?_
  simp only [List.take_succ_cons, List.take_zero, List.drop_succ_cons, List.drop_zero]
  repeat (go_big_quiet_step (fail))
  refine wpQuiet_nil ?_
  go_wp2
  have HM5 := Lib.hid (HM4.out.fr hgw5 (fun h => by have := HI.out _ h; have := HL2.out; omega))
  have HK5 := Lib.hid (HK4.out.fr hgw5 (fun h => by have := HI.out _ h; have := HL3.out; omega))
  clear x1 x2 hu hgw5
  have x2 := HT5.out.cells
  have x1 : ∀ i, w5.cell? ⟨w3.heap.size, i, none⟩ = (#[.int .i64 rv, .int .i64 ok, .int .i64 op, .int .u8 (oc0.toNat : Int), .int .i64 ol, .int .i64 os] : Array Value)[i]? := fun i => Blk.cell HK5.out i
  obtain ⟨w6, hw6⟩ : ∃ x : World, x = mapSet nameV vi w5.drew v (put T.revs (ol, os) rv) := ⟨_, rfl⟩
  have hu : (Instr.mapUpdate MV (.map (some v)) (.agg #[.int .i64 ol, .int .i64 os]) (.int .i64 rv)).run Tryz.prog w5.drew = .ok () w6 := by rw [hw6]; exact HU2.out _ (HT5.out.frn (Fr.refl _ _).drew)
  have HT6 := Lib.hid (show TapAt w6 a r v e _ by rw [hw6]; exact (HT5.out.frn (Fr.refl _ _).drew).upRev _)
  have HF6 := Lib.hid (show Fr (Its a r v e) w w6 by rw [hw6]; exact Fr.mapSet (HF5.out.drew) (.inr (.inr (.inr (.inl rfl)))) _)
  have hgw6 : Fr (Its a r v e) w5 w6 := by rw [hw6]; exact Fr.mapSet ((Fr.refl _ _).drew) (.inr (.inr (.inr (.inl rfl)))) _
  clear hw6
  refine wp_region_tail 13 (by kernel_rfl) (by kernel_rfl) ?_
  simp only [List.take_succ_cons, List.take_zero, List.drop_succ_cons, List.drop_zero]
  repeat (go_big_quiet_step (fail))
  refine wpQuiet_nil ?_
  go_wp2
  have HM6 := Lib.hid (HM5.out.fr hgw6 (fun h => by have := HI.out _ h; have := HL2.out; omega))
  clear x1 x2 hu hgw6
  have y1 := HT6.out.cells
  have y2 := fun i => Blk.frozen HT6.out.blk i
  have y3 : ∀ i, w6.cell? ⟨w2.heap.size, i, none⟩ = (#[.int .i64 k, .int .i64 ep, .int .i64 cl, .int .i64 hv, .int .i64 fi, .int .i64 nu, .int .i64 ac, .int .i64 rv, .int .i64 tg, .int .i64 ok, .int .i64 op, .int .u8 (oc0.toNat : Int), .int .i64 ol, .int .i64 os] : Array Value)[i]? := fun i => Blk.cell HM6.out i
  refine wp_region_tail 10 (by kernel_rfl) (by kernel_rfl) ?_
  simp only [List.take_succ_cons, List.take_zero, List.drop_succ_cons, List.drop_zero]
  repeat (go_big_quiet_step (fail))
  refine wpQuiet_nil ?_
  go_wp2
  go_ret
  exact ⟨_, rfl, .inl ⟨rfl, rfl⟩, (HT6.out.frn (Fr.refl _ _).drew).upEpoch _, (HF6.out.drew).setCell (.inr (.inl rfl)) _⟩

set_option maxHeartbeats 16000000 in
theorem see_ed_false (B a r v e : Nat) (T : GTap) (fr to_ : Int) (A : Option Addr) (n c : Nat) (xs : List UInt8) (sp : Bool) (w : World) (hG : Glb B w) (hT : TapAt w a r v e T) (ha : RB w A n xs) (hc : n ≤ c) (hgood : ¬ badAdr T.clients fr to_) (m : GMsg) (hd : decF xs = .ok m) (hw : rightWay m fr to_ = true) (hk : m.kind = 2) (hfit : fitsEd T ⟨m.tag, m.op⟩ = false) :
    Calls Tryz.prog 37 #[.pointer (some ⟨a, 0, none⟩), dgV fr to_ (.slice A n c) sp] w fun ev w' => SeePost w a r v e ((280, m.op.seq), T) ev w' := by
  obtain ⟨X, hX⟩ : ∃ X : World, X = w.alloc (.cells #[.int .i64 fr, .int .i64 to_, .slice A n c, .bool sp] 60) := ⟨_, rfl⟩
  have HX := Lib.hid hX
  have hXf : Fr None' w X := by rw [hX]; exact (Fr.refl _ _).alloc _
  have hD : Blk X w.heap.size 60 #[.int .i64 fr, .int .i64 to_, .slice A n c, .bool sp] := by rw [hX]; exact Blk.new _ _ _
  clear hX
  have HTlt : ∀ k, Its a r v e k → k < w.heap.size := hT.lt
  have hT1 := hT.frn hXf
  have z1 := hT1.cells
  have z2 : ∀ i, X.cell? ⟨w.heap.size, i, none⟩ = (#[.int .i64 fr, .int .i64 to_, .slice A n c, .bool sp] : Array Value)[i]? := fun i => Blk.cell hD i
  have HT := Lib.hid hT1
  have HF := Lib.hid hXf
  have HD := Lib.hid hD
  have He := Lib.hid wrap_fr
  have hadr : adrB T.clients fr to_ = false := by cases h : adrB T.clients fr to_; rfl; exact absurd ((adrB_iff _ _ _).1 h) hgood
  have HG := Lib.hid (hG.fr hXf fun _ h => h.elim)
  have HRB := Lib.hid (ha.frn hXf)
  clear hT hT1 hXf hD hG ha hgood
  unfold adrB at hadr
  have hmin := fun ts ty w => run_min ts ty fr to_ w
  have hmax := fun ts ty w => run_max ts ty fr to_ w
  generalize minI fr to_ = mn at *
  generalize maxI fr to_ = mx at *
  obtain ⟨gA, gB, gC⟩ : ((fr == 0) == (to_ == 0)) = false ∧ decide (mn < 0) = false ∧ decide (T.clients < mx) = false := by simpa only [Bool.or_eq_false_iff, and_assoc] using hadr
  clear hadr
  unfold dgV
  have Hd0 := Lib.hid hd
  have Hp0 := proves_any m fr to_ (.slice A n c) sp
  have Hfr := Lib.hid fun w (h : TapAt w a r v e T) => fitsRec_any a r v e T m.rev m.op w h
  have Hfe := Lib.hid fun w (h : TapAt w a r v e T) => fitsEd_any a r v e T ⟨m.tag, m.op⟩ w h
  have HU1 := Lib.hid fun w (h : TapAt w a r v e T) => h.recs.update rec_under int_key m.rev m.op
  have HU2 := Lib.hid fun w (h : TapAt w a r v e { T with records := put T.records m.rev m.op }) => h.revs.update rev_under name_key (nameOf m.op) m.rev
  have HU3 := Lib.hid fun w (h : TapAt w a r v e T) => h.eds.update ed_under name_key (nameOf m.op) ⟨m.tag, m.op⟩
  have hmx := fun ts ty w => run_max ts ty T.epoch m.epoch w
  clear hd
  have hpv : provV m = .iface 125 (editV ⟨m.tag, m.op⟩) := by unfold provV; rw [if_neg (by omega), if_pos hk]
  rw [hpv] at Hp0
  have Hf0 : ∀ w, TapAt w a r v e T → Calls Tryz.prog 65 #[.pointer (some ⟨a, 0, none⟩), editV ⟨m.tag, m.op⟩] w fun ev w' => ev = .returned (.bool false) ∧ Fr None' w w' := fun w h => by rw [← hfit]; exact Hfe.out w h
  clear hpv Hfr Hfe hk hfit
  clear HU1 HU2 HU3 hmx
  rw [hw] at Hp0
  clear hw
  obtain ⟨k, ep, cl, hv, fi, nu, ac, rv, tg, ⟨ok, op, oc0, ol, os⟩⟩ := m
  dsimp only at *
  unfold msgV msgCells opCells dgV at Hp0
  simp only [List.cons_append, List.nil_append] at Hp0
  unfold editV opCells at Hp0 Hf0
  have Hp := Lib.hid Hp0
  have Hf := Lib.hid Hf0
  clear Hp0 Hf0
  go_enter Tryz.func37, Tryz.ntmps37
  go_wp2
  rw [← HX.out]
  go_quiet (fail)
  clear z1 z2 hmin hmax gA gB gC
  have HT1 := Lib.hid (HT.out.frn ((Fr.refl _ _).drewN nq))
  have HF1 := Lib.hid (HF.out.drewN nq)
  have hD1 := HD.out.drewN nq
  have HD1 := Lib.hid hD1
  have z2 : ∀ i, (X.drewN nq).cell? ⟨w.heap.size, i, none⟩ = (#[.int .i64 fr, .int .i64 to_, .slice A n c, .bool sp] : Array Value)[i]? := fun i => Blk.cell hD1 i
  have Hd := Lib.hid (decode_any B A n c xs (X.drewN nq) (HG.out.fr ((Fr.refl None' _).drewN nq) fun _ h => h.elim) (HRB.out.frn ((Fr.refl _ _).drewN nq)) hc)
  clear hD1
  generalize X.drewN nq = X1 at *
  unfold DecPost at Hd
  rw [Hd0.out] at Hd
  dsimp only at Hd
  unfold msgV msgCells opCells at Hd
  simp only [List.cons_append, List.nil_append] at Hd
  go_wp2_with fail
  refine Hd.out.mono ?_
  rintro e1 w2 ⟨rfl, hf2⟩
  dsimp only
  obtain ⟨X2, hX2⟩ : ∃ X2 : World, X2 = w2.alloc (.cells #[.int .i64 k, .int .i64 ep, .int .i64 cl, .int .i64 hv, .int .i64 fi, .int .i64 nu, .int .i64 ac, .int .i64 rv, .int .i64 tg, .int .i64 ok, .int .i64 op, .int .u8 (oc0.toNat : Int), .int .i64 ol, .int .i64 os] 28) := ⟨_, rfl⟩
  have HX2 := Lib.hid hX2
  have hx2 : Fr None' X1 X2 := by rw [hX2]; exact hf2.alloc _
  have hM : Blk X2 w2.heap.size 28 #[.int .i64 k, .int .i64 ep, .int .i64 cl, .int .i64 hv, .int .i64 fi, .int .i64 nu, .int .i64 ac, .int .i64 rv, .int .i64 tg, .int .i64 ok, .int .i64 op, .int .u8 (oc0.toNat : Int), .int .i64 ol, .int .i64 os] := by rw [hX2]; exact Blk.new _ _ _
  clear hX2 z2
  have z2 : ∀ i, X2.cell? ⟨w.heap.size, i, none⟩ = (#[.int .i64 fr, .int .i64 to_, .slice A n c, .bool sp] : Array Value)[i]? := fun i => Blk.cell (HD1.out.fr hx2 fun h => h) i
  have z3 : ∀ i, X2.cell? ⟨w2.heap.size, i, none⟩ = (#[.int .i64 k, .int .i64 ep, .int .i64 cl, .int .i64 hv, .int .i64 fi, .int .i64 nu, .int .i64 ac, .int .i64 rv, .int .i64 tg, .int .i64 ok, .int .i64 op, .int .u8 (oc0.toNat : Int), .int .i64 ol, .int .i64 os] : Array Value)[i]? := fun i => Blk.cell hM i
  have HF2 := Lib.hid (HF1.out.trans' hx2)
  have HT2 := Lib.hid (HT1.out.frn hx2)
  have HM := Lib.hid hM
  have z4 : ∀ i, w2.cell? ⟨w.heap.size, i, none⟩ = (#[.int .i64 fr, .int .i64 to_, .slice A n c, .bool sp] : Array Value)[i]? := fun i => Blk.cell (HD1.out.fr hf2 fun h => h) i
  have l2 : w.heap.size < w2.heap.size := (HD1.out.fr hf2 fun h => h).lt
  clear hx2 hM hf2 Hd
  go_wp2_with fail
  rw [← HX2.out]
  refine (Hp.out _).mono ?_
  rintro e2 w3 ⟨rfl, hf3⟩
  dsimp only
  have HF3 := Lib.hid (HF2.out.trans' hf3)
  have HT3 := Lib.hid (HT2.out.frn hf3)
  have HL2 := Lib.hid (show w.heap.size ≤ w2.heap.size by omega)
  have HL3 := Lib.hid HF3.out.size
  have HM3 := Lib.hid (HM.out.fr hf3 fun h => h)
  clear hf3 z2 z3 z4 HD1 HD HM HT2 HF2 HT1 HF1 HT HF
  have HK := Lib.hid (Blk.new w3 125 #[.int .i64 tg, .int .i64 ok, .int .i64 op, .int .u8 (oc0.toNat : Int), .int .i64 ol, .int .i64 os])
  have a1 := ta_told
  have a2 := ta_made5
  have a3 := ta_made
  go_wp2_with fail
  refine (Hf.out _ (HT3.out.frn ((Fr.refl _ _).alloc _))).mono ?_
  rintro e3 w4 ⟨rfl, hf4⟩
  dsimp only
  have HT4 := Lib.hid ((HT3.out.frn ((Fr.refl _ _).alloc _)).frn hf4)
  have HF4 := Lib.hid ((HF3.out.alloc _).trans' hf4)
  have HM4 := Lib.hid ((HM3.out.alloc _).fr hf4 fun h => h)
  have HK4 := Lib.hid (HK.out.fr hf4 fun h => h)
  have x1 : ∀ i, w4.cell? ⟨w3.heap.size, i, none⟩ = (#[.int .i64 tg, .int .i64 ok, .int .i64 op, .int .u8 (oc0.toNat : Int), .int .i64 ol, .int .i64 os] : Array Value)[i]? := fun i => Blk.cell HK4.out i
  clear hf4
  go_wp2_with (go_at_call 62; refine (He.out _ _ _).mono ?_; rintro e3 w5 ⟨g, rfl, hF, hf5⟩)
  go_ret
  exact ⟨_, rfl, .inr ⟨by simp, g, rfl, hF⟩, HT4.out.frn hf5, (HF4.out.trans' hf5).none⟩

set_option maxHeartbeats 16000000 in
theorem see_ed_true (B a r v e : Nat) (T : GTap) (fr to_ : Int) (A : Option Addr) (n c : Nat) (xs : List UInt8) (sp : Bool) (w : World) (hG : Glb B w) (hT : TapAt w a r v e T) (ha : RB w A n xs) (hc : n ≤ c) (hgood : ¬ badAdr T.clients fr to_) (m : GMsg) (hd : decF xs = .ok m) (hw : rightWay m fr to_ = true) (hk : m.kind = 2) (hfit : fitsEd T ⟨m.tag, m.op⟩ = true) :
    Calls Tryz.prog 37 #[.pointer (some ⟨a, 0, none⟩), dgV fr to_ (.slice A n c) sp] w fun ev w' => SeePost w a r v e ((0, 0), { T with epoch := maxI T.epoch m.epoch, edits := put T.edits (nameOf m.op) ⟨m.tag, m.op⟩ }) ev w' := by
  obtain ⟨X, hX⟩ : ∃ X : World, X = w.alloc (.cells #[.int .i64 fr, .int .i64 to_, .slice A n c, .bool sp] 60) := ⟨_, rfl⟩
  have HX := Lib.hid hX
  have hXf : Fr None' w X := by rw [hX]; exact (Fr.refl _ _).alloc _
  have hD : Blk X w.heap.size 60 #[.int .i64 fr, .int .i64 to_, .slice A n c, .bool sp] := by rw [hX]; exact Blk.new _ _ _
  clear hX
  have HTlt : ∀ k, Its a r v e k → k < w.heap.size := hT.lt
  have hT1 := hT.frn hXf
  have z1 := hT1.cells
  have z2 : ∀ i, X.cell? ⟨w.heap.size, i, none⟩ = (#[.int .i64 fr, .int .i64 to_, .slice A n c, .bool sp] : Array Value)[i]? := fun i => Blk.cell hD i
  have HT := Lib.hid hT1
  have HF := Lib.hid hXf
  have HD := Lib.hid hD
  have He := Lib.hid wrap_fr
  have hadr : adrB T.clients fr to_ = false := by cases h : adrB T.clients fr to_; rfl; exact absurd ((adrB_iff _ _ _).1 h) hgood
  have HG := Lib.hid (hG.fr hXf fun _ h => h.elim)
  have HRB := Lib.hid (ha.frn hXf)
  clear hT hT1 hXf hD hG ha hgood
  unfold adrB at hadr
  have hmin := fun ts ty w => run_min ts ty fr to_ w
  have hmax := fun ts ty w => run_max ts ty fr to_ w
  generalize minI fr to_ = mn at *
  generalize maxI fr to_ = mx at *
  obtain ⟨gA, gB, gC⟩ : ((fr == 0) == (to_ == 0)) = false ∧ decide (mn < 0) = false ∧ decide (T.clients < mx) = false := by simpa only [Bool.or_eq_false_iff, and_assoc] using hadr
  clear hadr
  unfold dgV
  have Hd0 := Lib.hid hd
  have Hp0 := proves_any m fr to_ (.slice A n c) sp
  have Hfr := Lib.hid fun w (h : TapAt w a r v e T) => fitsRec_any a r v e T m.rev m.op w h
  have Hfe := Lib.hid fun w (h : TapAt w a r v e T) => fitsEd_any a r v e T ⟨m.tag, m.op⟩ w h
  have HU1 := Lib.hid fun w (h : TapAt w a r v e T) => h.recs.update rec_under int_key m.rev m.op
  have HU2 := Lib.hid fun w (h : TapAt w a r v e { T with records := put T.records m.rev m.op }) => h.revs.update rev_under name_key (nameOf m.op) m.rev
  have HU3 := Lib.hid fun w (h : TapAt w a r v e T) => h.eds.update ed_under name_key (nameOf m.op) ⟨m.tag, m.op⟩
  have hmx := fun ts ty w => run_max ts ty T.epoch m.epoch w
  clear hd
  have hpv : provV m = .iface 125 (editV ⟨m.tag, m.op⟩) := by unfold provV; rw [if_neg (by omega), if_pos hk]
  rw [hpv] at Hp0
  have Hf0 : ∀ w, TapAt w a r v e T → Calls Tryz.prog 65 #[.pointer (some ⟨a, 0, none⟩), editV ⟨m.tag, m.op⟩] w fun ev w' => ev = .returned (.bool true) ∧ Fr None' w w' := fun w h => by rw [← hfit]; exact Hfe.out w h
  clear hpv Hfr Hfe hk hfit
  rw [hw] at Hp0
  clear hw
  obtain ⟨k, ep, cl, hv, fi, nu, ac, rv, tg, ⟨ok, op, oc0, ol, os⟩⟩ := m
  dsimp only at *
  unfold msgV msgCells opCells dgV at Hp0
  simp only [List.cons_append, List.nil_append] at Hp0
  unfold editV opCells at Hp0 Hf0
  have Hp := Lib.hid Hp0
  have Hf := Lib.hid Hf0
  clear Hp0 Hf0
  go_enter Tryz.func37, Tryz.ntmps37
  go_wp2
  rw [← HX.out]
  go_quiet (fail)
  clear z1 z2 hmin hmax gA gB gC
  have HT1 := Lib.hid (HT.out.frn ((Fr.refl _ _).drewN nq))
  have HF1 := Lib.hid (HF.out.drewN nq)
  have hD1 := HD.out.drewN nq
  have HD1 := Lib.hid hD1
  have z2 : ∀ i, (X.drewN nq).cell? ⟨w.heap.size, i, none⟩ = (#[.int .i64 fr, .int .i64 to_, .slice A n c, .bool sp] : Array Value)[i]? := fun i => Blk.cell hD1 i
  have Hd := Lib.hid (decode_any B A n c xs (X.drewN nq) (HG.out.fr ((Fr.refl None' _).drewN nq) fun _ h => h.elim) (HRB.out.frn ((Fr.refl _ _).drewN nq)) hc)
  clear hD1
  generalize X.drewN nq = X1 at *
  unfold DecPost at Hd
  rw [Hd0.out] at Hd
  dsimp only at Hd
  unfold msgV msgCells opCells at Hd
  simp only [List.cons_append, List.nil_append] at Hd
  go_wp2_with fail
  refine Hd.out.mono ?_
  rintro e1 w2 ⟨rfl, hf2⟩
  dsimp only
  obtain ⟨X2, hX2⟩ : ∃ X2 : World, X2 = w2.alloc (.cells #[.int .i64 k, .int .i64 ep, .int .i64 cl, .int .i64 hv, .int .i64 fi, .int .i64 nu, .int .i64 ac, .int .i64 rv, .int .i64 tg, .int .i64 ok, .int .i64 op, .int .u8 (oc0.toNat : Int), .int .i64 ol, .int .i64 os] 28) := ⟨_, rfl⟩
  have HX2 := Lib.hid hX2
  have hx2 : Fr None' X1 X2 := by rw [hX2]; exact hf2.alloc _
  have hM : Blk X2 w2.heap.size 28 #[.int .i64 k, .int .i64 ep, .int .i64 cl, .int .i64 hv, .int .i64 fi, .int .i64 nu, .int .i64 ac, .int .i64 rv, .int .i64 tg, .int .i64 ok, .int .i64 op, .int .u8 (oc0.toNat : Int), .int .i64 ol, .int .i64 os] := by rw [hX2]; exact Blk.new _ _ _
  clear hX2 z2
  have z2 : ∀ i, X2.cell? ⟨w.heap.size, i, none⟩ = (#[.int .i64 fr, .int .i64 to_, .slice A n c, .bool sp] : Array Value)[i]? := fun i => Blk.cell (HD1.out.fr hx2 fun h => h) i
  have z3 : ∀ i, X2.cell? ⟨w2.heap.size, i, none⟩ = (#[.int .i64 k, .int .i64 ep, .int .i64 cl, .int .i64 hv, .int .i64 fi, .int .i64 nu, .int .i64 ac, .int .i64 rv, .int .i64 tg, .int .i64 ok, .int .i64 op, .int .u8 (oc0.toNat : Int), .int .i64 ol, .int .i64 os] : Array Value)[i]? := fun i => Blk.cell hM i
  have HF2 := Lib.hid (HF1.out.trans' hx2)
  have HT2 := Lib.hid (HT1.out.frn hx2)
  have HM := Lib.hid hM
  have z4 : ∀ i, w2.cell? ⟨w.heap.size, i, none⟩ = (#[.int .i64 fr, .int .i64 to_, .slice A n c, .bool sp] : Array Value)[i]? := fun i => Blk.cell (HD1.out.fr hf2 fun h => h) i
  have l2 : w.heap.size < w2.heap.size := (HD1.out.fr hf2 fun h => h).lt
  clear hx2 hM hf2 Hd
  go_wp2_with fail
  rw [← HX2.out]
  refine (Hp.out _).mono ?_
  rintro e2 w3 ⟨rfl, hf3⟩
  dsimp only
  have HF3 := Lib.hid (HF2.out.trans' hf3)
  have HT3 := Lib.hid (HT2.out.frn hf3)
  have HL2 := Lib.hid (show w.heap.size ≤ w2.heap.size by omega)
  have HL3 := Lib.hid HF3.out.size
  have HM3 := Lib.hid (HM.out.fr hf3 fun h => h)
  clear hf3 z2 z3 z4 HD1 HD HM HT2 HF2 HT1 HF1 HT HF
  have HK := Lib.hid (Blk.new w3 125 #[.int .i64 tg, .int .i64 ok, .int .i64 op, .int .u8 (oc0.toNat : Int), .int .i64 ol, .int .i64 os])
  have a1 := ta_told
  have a2 := ta_made5
  have a3 := ta_made
  go_wp2_with fail
  refine (Hf.out _ (HT3.out.frn ((Fr.refl _ _).alloc _))).mono ?_
  rintro e3 w4 ⟨rfl, hf4⟩
  dsimp only
  have HT4 := Lib.hid ((HT3.out.frn ((Fr.refl _ _).alloc _)).frn hf4)
  have HF4 := Lib.hid ((HF3.out.alloc _).trans' hf4)
  have HM4 := Lib.hid ((HM3.out.alloc _).fr hf4 fun h => h)
  have HK4 := Lib.hid (HK.out.fr hf4 fun h => h)
  have x1 : ∀ i, w4.cell? ⟨w3.heap.size, i, none⟩ = (#[.int .i64 tg, .int .i64 ok, .int .i64 op, .int .u8 (oc0.toNat : Int), .int .i64 ol, .int .i64 os] : Array Value)[i]? := fun i => Blk.cell HK4.out i
  clear hf4
  go_wp2
  have x2 := HT4.out.cells
  have HI := Lib.hid HTlt
  obtain ⟨w5, hw5⟩ : ∃ x : World, x = mapSet nameV editV w4.drew e (put T.edits (ol, os) ⟨tg, ⟨ok, op, oc0, ol, os⟩⟩) := ⟨_, rfl⟩
  have hu : (Instr.mapUpdate ME (.map (some e)) (.agg #[.int .i64 ol, .int .i64 os]) (.agg #[.int .i64 tg, .int .i64 ok, .int .i64 op, .int .u8 (oc0.toNat : Int), .int .i64 ol, .int .i64 os])).run Tryz.prog w4.drew = .ok () w5 := by rw [hw5]; exact HU3.out _ (HT4.out.frn (Fr.refl _ _).drew)
  have HT5 := Lib.hid (show TapAt w5 a r v e _ by rw [hw5]; exact (HT4.out.frn (Fr.refl _ _).drew).upEd _)
  have HF5 := Lib.hid (show Fr (Its a r v e) w w5 by rw [hw5]; exact Fr.mapSet ((HF4.out.none).drew) (.inr (.inr (.inr (.inr rfl)))) _)
  have hgw5 : Fr (Its a r v e) w4 w5 := by rw [hw5]; exact Fr.mapSet ((Fr.refl _ _).drew) (.inr (.inr (.inr (.inr rfl)))) _
  clear hw5
  refine wp_region_tail 15 (by kernel_rfl) (by kernel_rfl) ?_
  simp only [List.take_succ_cons, List.take_zero, List.drop_succ_cons, List.drop_zero]
  repeat (go_big_quiet_step (fail))
  refine wpQuiet_nil ?_
  go_wp2
  have HM5 := Lib.hid (HM4.out.fr hgw5 (fun h => by have := HI.out _ h; have := HL2.out; omega))
  clear x1 x2 hu hgw5
  have y1 := HT5.out.cells
  have y2 := fun i => Blk.frozen HT5.out.blk i
  have y3 : ∀ i, w5.cell? ⟨w2.heap.size, i, none⟩ = (#[.int .i64 k, .int .i64 ep, .int .i64 cl, .int .i64 hv, .int .i64 fi, .int .i64 nu, .int .i64 ac, .int .i64 rv, .int .i64 tg, .int .i64 ok, .int .i64 op, .int .u8 (oc0.toNat : Int), .int .i64 ol, .int .i64 os] : Array Value)[i]? := fun i => Blk.cell HM5.out i
  refine wp_region_tail 10 (by kernel_rfl) (by kernel_rfl) ?_
  simp only [List.take_succ_cons, List.take_zero, List.drop_succ_cons, List.drop_zero]
  repeat (go_big_quiet_step (fail))
  refine wpQuiet_nil ?_
  go_wp2
  go_ret
  exact ⟨_, rfl, .inl ⟨rfl, rfl⟩, (HT5.out.frn (Fr.refl _ _).drew).upEpoch _, (HF5.out.drew).setCell (.inr (.inl rfl)) _⟩

end Go.Proofs.YtodkhoclbhdihaaGreatDoor

/-
  Contract of tap's See, all cases in one; Epoch.
-/
namespace Go.Proofs.YtodkhoclbhdihaaGreatDoor
open Go.RowKit

theorem see_any (B a r v e : Nat) (T : GTap) (fr to_ : Int) (A : Option Addr) (n c : Nat) (xs : List UInt8) (sp : Bool) (w : World) (hG : Glb B w) (hT : TapAt w a r v e T) (ha : RB w A n xs) (hc : n ≤ c) :
    Calls Tryz.prog 37 #[.pointer (some ⟨a, 0, none⟩), dgV fr to_ (.slice A n c) sp] w fun ev w' => SeePost w a r v e (seeF T fr to_ xs) ev w' := by
  by_cases hb : badAdr T.clients fr to_
  · exact see_adr a r v e T fr to_ A n c xs sp w hT hb
  cases hd : decF xs with
  | error x =>
    rw [see_err hb hd]
    exact see_dec B a r v e T fr to_ A n c xs sp w hG hT ha hc hb x hd
  | ok m =>
    rw [see_msg hb hd]
    cases hw : rightWay m fr to_ with
    | false =>
      simp only [if_true]
      exact see_way B a r v e T fr to_ A n c xs sp w hG hT ha hc hb m hd hw
    | true =>
      simp only [Bool.true_eq_false, if_false]
      by_cases h5 : m.kind = 5
      · rw [if_pos h5]
        cases hf : fitsRec T m.rev m.op with
        | false => simpa using see_rec_false B a r v e T fr to_ A n c xs sp w hG hT ha hc hb m hd hw h5 hf
        | true => simpa using see_rec_true B a r v e T fr to_ A n c xs sp w hG hT ha hc hb m hd hw h5 hf
      · rw [if_neg h5]
        by_cases h2 : m.kind = 2
        · rw [if_pos h2]
          cases hf : fitsEd T ⟨m.tag, m.op⟩ with
          | false => simpa using see_ed_false B a r v e T fr to_ A n c xs sp w hG hT ha hc hb m hd hw h2 hf
          | true => simpa using see_ed_true B a r v e T fr to_ A n c xs sp w hG hT ha hc hb m hd hw h2 hf
        · rw [if_neg h2]
          exact see_other B a r v e T fr to_ A n c xs sp w hG hT ha hc hb m hd hw h5 h2

theorem epoch_any (a r v e : Nat) (T : GTap) (w : World) (hT : TapAt w a r v e T) : Calls Tryz.prog 43 #[.pointer (some ⟨a, 0, none⟩)] w fun ev w' => ev = .returned (.int .i64 T.epoch) ∧ w = w' := by
  have z := hT.cells
  go_enter Tryz.func43, Tryz.ntmps43
  go_wp2
  go_ret
  exact ⟨rfl, rfl⟩
end Go.Proofs.YtodkhoclbhdihaaGreatDoor

/-
  Reading a message's datagram gives the message again; what the fields of such a message can be. No memory and no program in it.
-/
namespace Go.Proofs.YtodkhoclbhdihaaGreatDoor

def mkOf (m : GMsg) : Int := if m.kind = 2 then m.client else 0
theorem enc_ok_inv {m : GMsg} {xs : List UInt8} (h : encF m = .ok xs) :
    1 ≤ m.kind ∧ m.kind ≤ 6 ∧ (∀ f, 1 ≤ f → f < 14 → badF (flat m) (shape m.kind.toNat) (mkOf m) f = false) ∧ xs = sealed (layB (flat m) (shape m.kind.toNat)) := by
  unfold encF at h
  split at h
  · cases h
  · rename_i hk
    split at h
    · cases h
    · rename_i hb
      cases h
      refine ⟨by omega, by omega, fun f h1 h2 => ?_, rfl⟩
      unfold firstBad at hb
      rw [List.find?_range'_eq_none] at hb
      have := hb f h1 (by omega)
      unfold mkOf
      simpa using this
theorem bad_named {v : V} {sh : List Nat} {mk : Int} {f : Nat} (h : badF v sh mk f = false) (hf : f ∈ sh) : mayB f v mk = true := by
  unfold badF namedB at h
  have : sh.contains f = true := by simpa using hf
  rw [this] at h
  simpa using h
theorem bad_unnamed {v : V} {sh : List Nat} {mk : Int} {f : Nat} (h : badF v sh mk f = false) (hf : f ∉ sh) : v f = 0 := by
  unfold badF namedB at h
  have : sh.contains f = false := by simpa using hf
  rw [this] at h
  simpa using h
theorem shape_in (k : Nat) : ∀ f ∈ shape k, 1 ≤ f ∧ f < 14 := by
  match k with
  | 0 | 1 | 2 | 3 | 4 | 5 | 6 => decide
  | k + 7 => simp [shape]
theorem shape_up (k : Nat) : (shape k).Pairwise (· < ·) := by
  match k with
  | 0 | 1 | 2 | 3 | 4 | 5 | 6 => decide
  | k + 7 => simp [shape]
theorem shape_two (k : Nat) (h1 : 1 ≤ k) (h6 : k ≤ 6) : 1 ∈ shape k ∧ 2 ∈ shape k := by
  match k, h1, h6 with
  | 1, _, _ | 2, _, _ | 3, _, _ | 4, _, _ | 5, _, _ | 6, _, _ => decide
theorem mayB_iff (f : Nat) (v : V) (mk : Int) : mayB f v mk = true ↔ loF f v mk ≤ v f ∧ v f ≤ hiF f v mk := by
  unfold mayB
  simp
/-- The bounds of a field that may be, whatever it is. -/
theorem may_range {v : V} {mk : Int} {f : Nat} (h : mayB f v mk = true) (hmk : mk = 0 ∨ (1 ≤ mk ∧ mk ≤ 64)) (h1 : 1 ≤ f) (h2 : f < 14) : 0 ≤ v f ∧ v f ≤ (if sz f = 2 then 65535 else 255) := by
  rw [mayB_iff] at h
  match f, h1, h2 with
  | 1, _, _ | 2, _, _ | 3, _, _ | 4, _, _ | 5, _, _ | 6, _, _ | 7, _, _ | 8, _, _ | 9, _, _ | 10, _, _ | 11, _, _ | 12, _, _ | 13, _, _ =>
    simp only [loF, hiF, sz] at h ⊢
    simp
    repeat' split at h
    all_goals omega
theorem lo8_of (x : Int) (h0 : 0 ≤ x) (h1 : x ≤ 255) : (((lo8 x.toNat).toNat : Nat) : Int) = x := by
  rw [lo8_nat]
  omega
theorem getN_field (v : V) (f : Nat) (pre post : List UInt8) (h0 : 0 ≤ v f) (h1 : v f ≤ (if sz f = 2 then 65535 else 255)) : getN (pre ++ fieldB v f ++ post) pre.length (sz f) = v f := by
  unfold getN fieldB
  by_cases h : sz f = 2
  · rw [if_pos h] at h1
    simp only [if_pos h]
    have e1 : (pre ++ [lo8 ((v f).toNat / 256), lo8 (v f).toNat] ++ post)[pre.length]? = some (lo8 ((v f).toNat / 256)) := by simp
    have e2 : (pre ++ [lo8 ((v f).toNat / 256), lo8 (v f).toNat] ++ post)[pre.length + 1]? = some (lo8 (v f).toNat) := by simp
    rw [e1, e2]
    simp only [Option.getD_some, lo8_nat]
    omega
  · rw [if_neg h] at h1
    simp only [if_neg h]
    have e1 : (pre ++ [lo8 (v f).toNat] ++ post)[pre.length]? = some (lo8 (v f).toNat) := by simp
    rw [e1]
    simp only [Option.getD_some, lo8_nat]
    omega
theorem field_len (v : V) (f : Nat) (hf : f < 14) : (fieldB v f).length = sz f := by
  unfold fieldB
  have : sz f = 1 ∨ sz f = 2 := by
    unfold sz
    match f, hf with
    | 0, _ | 1, _ | 2, _ | 3, _ | 4, _ | 5, _ | 6, _ | 7, _ | 8, _ | 9, _ | 10, _ | 11, _ | 12, _ | 13, _ => decide
  rcases this with h | h <;> simp [h]
theorem may_same {f : Nat} {v u : V} {mk mk' : Int} (hf : v f = u f) (h9 : 9 ≤ f → v 9 = u 9) (hm : f = 12 → mk = mk') : mayB f v mk = mayB f u mk' := by
  unfold mayB
  rw [hf]
  by_cases h12 : f = 12
  · subst h12
    rw [hm rfl]
    rfl
  by_cases hge : 9 ≤ f
  · have e9 := h9 hge
    have e1 : loF f v mk = loF f u mk' := by
      unfold loF
      split <;> first | rfl | rw [e9] | omega
    have e2 : hiF f v mk = hiF f u mk' := by
      unfold hiF
      split <;> first | rfl | rw [e9] | omega
    rw [e1, e2]
  · have e1 : loF f v mk = loF f u mk' := by
      unfold loF
      split <;> first | rfl | omega
    have e2 : hiF f v mk = hiF f u mk' := by
      unfold hiF
      split <;> first | rfl | omega
    rw [e1, e2]
theorem pick_lay (u : V) (own : Bool) (sh : List Nat) (p : Nat) (v : V) (pre : List UInt8) (hp : pre.length = p) (hup : sh.Pairwise (· < ·)) (hin : ∀ f ∈ sh, 1 ≤ f ∧ f < 14)
    (hv : ∀ i, i ∉ sh → v i = u i) (hm : ∀ f ∈ sh, mayB f u (if own then u 2 else 0) = true) (h2 : own = true → (1 ≤ u 2 ∧ u 2 ≤ 64)) :
    pickF (pre ++ (sh.map (fieldB u)).flatten) own sh p v = .ok u := by
  induction sh generalizing p v pre with
  | nil =>
    unfold pickF
    congr 1
    funext i
    exact hv i (by simp)
  | cons f sh ih =>
    obtain ⟨hlt, hup'⟩ := List.pairwise_cons.1 hup
    have hf := hin f (by simp)
    have hmf := hm f (by simp)
    have hr := may_range hmf (by cases own; exact .inl rfl; exact .inr (h2 rfl)) hf.1 hf.2
    have hg : getN (pre ++ ((f :: sh).map (fieldB u)).flatten) p (sz f) = u f := by
      have := getN_field u f pre (sh.map (fieldB u)).flatten hr.1 hr.2
      rw [← hp, List.map_cons, List.flatten_cons, ← List.append_assoc]
      exact this
    unfold pickF
    rw [hg]
    have hs : ∀ i, i ∉ sh → setV v f (u f) i = u i := fun i hi => by
      unfold setV
      by_cases e : i = f
      · rw [if_pos e, e]
      · rw [if_neg e]
        exact hv i (by simp [e, hi])
    have hmay : mayB f (setV v f (u f)) (if own = true then (setV v f (u f)) 2 else 0) = true := by
      refine Eq.trans (may_same (by simp [setV]) (fun h9 => hs 9 fun h => by have := hlt 9 h; omega) (fun h12 => ?_)) hmf
      rw [hs 2 fun h => by have := hlt 2 h; omega]
    rw [if_pos hmay]
    have := ih (p + sz f) (setV v f (u f)) (pre ++ fieldB u f) (by rw [List.length_append, field_len u f hf.2, hp]) hup' (fun g hg => hin g (by simp [hg])) hs (fun g hg => hm g (by simp [hg]))
    rw [List.map_cons, List.flatten_cons, ← List.append_assoc]
    exact this
theorem lay_len (u : V) (sh : List Nat) (hin : ∀ f ∈ sh, f < 14) : (layB u sh).length = 1 + lenF sh := by
  unfold layB lenF
  rw [List.length_cons, Nat.add_comm]
  congr 1
  induction sh with
  | nil => rfl
  | cons f sh ih =>
    rw [List.map_cons, List.flatten_cons, List.length_append, field_len u f (hin f (by simp)), ih fun g hg => hin g (by simp [hg]), List.map_cons, List.sum_cons]
theorem lenF_le20 (k : Nat) : lenF (shape k) ≤ 20 := by
  match k with
  | 0 | 1 | 2 | 3 | 4 | 5 | 6 => decide
  | k + 7 => simp [shape, lenF]
theorem flat_op (m : GMsg) : opOf (flat m) = m.op := by
  obtain ⟨k, e, c, h, f, n, a, r, t, ⟨k', p, ch, c', s⟩⟩ := m
  simp [opOf, flat, flatL]
theorem flat_msg (m : GMsg) : msgOf m.kind (flat m) = m := by
  have := flat_op m
  unfold msgOf
  rw [this]
  rfl

/-- Reading what was written. -/
theorem trip {m : GMsg} {xs : List UInt8} (h : encF m = .ok xs) : decF xs = .ok m := by
  obtain ⟨h1, h6, hb, rfl⟩ := enc_ok_inv h
  obtain ⟨k, hk⟩ : ∃ k : Nat, m.kind = k := ⟨m.kind.toNat, by omega⟩
  have hkt : m.kind.toNat = k := by omega
  rw [hkt] at hb ⊢
  have hl := lay_len (flat m) (shape k) fun f hf => (shape_in k f hf).2
  have hll := lenF_le20 k
  have hseal : (sealed (layB (flat m) (shape k))).length = 1 + lenF (shape k) + 4 := by
    unfold sealed sum4
    rw [List.length_append, hl]
    rfl
  have htake : (sealed (layB (flat m) (shape k))).take ((sealed (layB (flat m) (shape k))).length - 4) = layB (flat m) (shape k) := by
    rw [hseal]
    unfold sealed
    rw [List.take_left' (by rw [hl]; omega)]
  have hdrop : (sealed (layB (flat m) (shape k))).drop ((sealed (layB (flat m) (shape k))).length - 4) = sum4 (crc (layB (flat m) (shape k))) := by
    rw [hseal]
    unfold sealed
    rw [List.drop_left' (by rw [hl]; omega)]
  unfold decF
  rw [if_neg (by omega), if_neg (by omega), htake, hdrop, if_pos rfl]
  have h0 : flat m 0 = (k : Int) := hk
  have hc : (lo8 (flat m 0).toNat).toNat = k := by rw [h0, lo8_nat]; omega
  have h2 := shape_two k (by omega) (by omega)
  have hmk : mkOf m = if decide (k = 2) = true then flat m 2 else 0 := by
    unfold mkOf
    by_cases e : k = 2
    · rw [if_pos (by omega), if_pos (by simpa using e)]; rfl
    · rw [if_neg (by omega), if_neg (by simpa using e)]
  have hcl : 1 ≤ flat m 2 ∧ flat m 2 ≤ 64 := by
    have := bad_named (hb 2 (by omega) (by omega)) h2.2
    rw [mayB_iff] at this
    exact this
  have hp := pick_lay (flat m) (decide (k = 2)) (shape k) 1 (setV (fun _ => 0) 0 (k : Int)) [lo8 (flat m 0).toNat] rfl (shape_up k) (shape_in k)
    (fun i hi => by
      unfold setV
      by_cases e : i = 0
      · rw [if_pos e, e]; exact h0.symm
      · rw [if_neg e]
        by_cases e14 : i < 14
        · exact (bad_unnamed (hb i (by omega) e14) hi).symm
        · unfold flat flatL
          rw [List.getD_eq_getElem?_getD, List.getElem?_eq_none (by simp; omega)]
          rfl)
    (fun f hf => by
      have hi := shape_in k f hf
      have := bad_named (hb f hi.1 hi.2) hf
      rwa [hmk] at this)
    (fun _ => hcl)
  unfold bodyF layB
  simp only
  rw [hc, if_neg (by omega)]
  have hlen : (lo8 (flat m 0).toNat :: ((shape k).map (fieldB (flat m))).flatten).length = 1 + lenF (shape k) := hl
  rw [if_neg (by rw [hlen]; simp)]
  have e1 : [lo8 (flat m 0).toNat] ++ ((shape k).map (fieldB (flat m))).flatten = lo8 (flat m 0).toNat :: ((shape k).map (fieldB (flat m))).flatten := rfl
  rw [e1] at hp
  rw [hp]
  simp only
  rw [← hk, flat_msg]
/-- Epoch and client of a message that has a datagram. -/
theorem enc_epoch {m : GMsg} {xs : List UInt8} (h : encF m = .ok xs) : 1 ≤ m.epoch ∧ m.epoch ≤ 255 ∧ 1 ≤ m.client ∧ m.client ≤ 64 := by
  obtain ⟨h1, h6, hb, _⟩ := enc_ok_inv h
  have h2 := shape_two m.kind.toNat (by omega) (by omega)
  have a := bad_named (hb 1 (by omega) (by omega)) h2.1
  have b := bad_named (hb 2 (by omega) (by omega)) h2.2
  rw [mayB_iff] at a b
  have a1 : 1 ≤ m.epoch ∧ m.epoch ≤ 255 := a
  have b1 : 1 ≤ m.client ∧ m.client ≤ 64 := b
  omega
end Go.Proofs.YtodkhoclbhdihaaGreatDoor

/-
  Plain laws of a tap: what is refused changes nothing; what is seen again changes nothing. No memory and no program in it.
-/
namespace Go.Proofs.YtodkhoclbhdihaaGreatDoor

theorem put_same {κ ν : Type} [DecidableEq κ] (l : List (κ × ν)) (k : κ) (v : ν) (h : get l k = some v) : put l k v = l := by
  induction l with
  | nil => cases h
  | cons p l ih =>
    obtain ⟨a, b⟩ := p
    unfold get at h
    unfold put
    by_cases ha : a = k
    · rw [if_pos ha] at h
      cases h
      rw [if_pos ha, ha]
    · rw [if_neg ha] at h
      rw [if_neg ha, ih h]
theorem decF_code {xs : List UInt8} {x : Int × Int} (h : decF xs = .error x) : x.1 ≠ 0 ∧ x.1 ≠ 280 := by
  unfold decF at h
  split at h
  · cases h; simp
  split at h
  · cases h; simp
  split at h
  · unfold bodyF at h
    split at h
    · cases h; simp
    · split at h
      · cases h; simp
      · split at h
        · cases h; simp
        · split at h
          · cases h; simp
          · cases h
  · cases h; simp
/-- What is refused changes nothing. -/
theorem see_refused (T : GTap) (fr to_ : Int) (xs : List UInt8) (h : (seeF T fr to_ xs).1.1 ≠ 0) : (seeF T fr to_ xs).2 = T := by
  unfold seeF at h ⊢
  split
  · rfl
  · rename_i hb
    rw [if_neg hb] at h
    cases hd : decF xs with
    | error x => rfl
    | ok m =>
      rw [hd] at h
      dsimp only at h ⊢
      repeat' split
      all_goals first | rfl | (exfalso; simp_all)
theorem maxI_le (a b : Int) : maxI (maxI a b) b = maxI a b := by
  unfold maxI
  repeat' split
  all_goals omega
theorem together_self (o : GOp) : togetherB o o = true := by simp [togetherB]
/-- What was taken is taken again, and nothing changes. -/
theorem see_again (T : GTap) (fr to_ : Int) (xs : List UInt8) (h : (seeF T fr to_ xs).1.1 = 0) : seeF (seeF T fr to_ xs).2 fr to_ xs = ((0, 0), (seeF T fr to_ xs).2) := by
  have hc : (seeF T fr to_ xs).2.clients = T.clients := by
    unfold seeF
    repeat' split
    all_goals rfl
  by_cases hb : (decide (fr = 0) == decide (to_ = 0)) ∨ (fr < 0 ∨ to_ < 0) ∨ (T.clients < fr ∨ T.clients < to_)
  · unfold seeF at h
    rw [if_pos hb] at h
    simp at h
  cases hd : decF xs with
  | error x =>
    unfold seeF at h
    rw [if_neg hb, hd] at h
    exact absurd h (decF_code hd).1
  | ok m =>
    have e : ∀ T' : GTap, T'.clients = T.clients → seeF T' fr to_ xs = if rightWay m fr to_ = false then ((281, 0), T')
      else if m.kind = 5 then
        if fitsRec T' m.rev m.op then ((0, 0), { T' with epoch := maxI T'.epoch m.epoch, records := put T'.records m.rev m.op, revs := put T'.revs (nameOf m.op) m.rev }) else ((280, m.rev), T')
      else if m.kind = 2 then
        if fitsEd T' ⟨m.tag, m.op⟩ then ((0, 0), { T' with epoch := maxI T'.epoch m.epoch, edits := put T'.edits (nameOf m.op) ⟨m.tag, m.op⟩ }) else ((280, m.op.seq), T')
      else ((0, 0), { T' with epoch := maxI T'.epoch m.epoch }) := fun T' h' => by
        conv => lhs; unfold seeF
        rw [h', if_neg hb, hd]
    rw [e _ hc]
    rw [e T rfl] at h ⊢
    cases hw : rightWay m fr to_
    · rw [hw] at h; simp at h
    rw [hw] at h
    simp only [Bool.true_eq_false, if_false] at h ⊢
    by_cases h5 : m.kind = 5
    · simp only [if_pos h5] at h ⊢
      cases hf : fitsRec T m.rev m.op
      · rw [hf] at h; simp at h
      · simp only [if_true]
        have hf2 : fitsRec { T with epoch := maxI T.epoch m.epoch, records := put T.records m.rev m.op, revs := put T.revs (nameOf m.op) m.rev } m.rev m.op = true := by
          unfold fitsRec at hf ⊢
          simp only [get_put, if_true]
          simp only [Bool.and_eq_true] at hf ⊢
          exact ⟨⟨by simp, by simp⟩, hf.2⟩
        rw [hf2]
        simp only [if_true]
        rw [put_same (put T.records m.rev m.op) m.rev m.op (by rw [get_put, if_pos rfl]), put_same (put T.revs (nameOf m.op) m.rev) (nameOf m.op) m.rev (by rw [get_put, if_pos rfl]), maxI_le]
    · simp only [if_neg h5] at h ⊢
      by_cases h2 : m.kind = 2
      · simp only [if_pos h2] at h ⊢
        cases hf : fitsEd T ⟨m.tag, m.op⟩
        · rw [hf] at h; simp at h
        · simp only [if_true]
          have hf2 : fitsEd { T with epoch := maxI T.epoch m.epoch, edits := put T.edits (nameOf m.op) ⟨m.tag, m.op⟩ } ⟨m.tag, m.op⟩ = true := by
            unfold fitsEd at hf ⊢
            simp only [get_put, if_true]
            simp only [Bool.and_eq_true] at hf ⊢
            exact ⟨by simp, hf.2⟩
          rw [hf2]
          simp only [if_true]
          rw [put_same (put T.edits (nameOf m.op) ⟨m.tag, m.op⟩) (nameOf m.op) ⟨m.tag, m.op⟩ (by rw [get_put, if_pos rfl]), maxI_le]
      · simp only [if_neg h2]
        rw [maxI_le]
end Go.Proofs.YtodkhoclbhdihaaGreatDoor
