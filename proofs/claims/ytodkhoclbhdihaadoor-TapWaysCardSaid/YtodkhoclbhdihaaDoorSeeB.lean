/-
  Contract of tap's See.
-/
import Derived.Test.YtodkhoclbhdihaaDoorSeeA
namespace Go.Proofs.YtodkhoclbhdihaaDoor
open Go.RowKit

theorem see_err {T : GTap} {fr to_ : Int} {xs : List UInt8} {x : Int × Int} (h : ¬ badAdr T.clients fr to_) (hd : decF xs = .error x) : seeF T fr to_ xs = (x, T) := by
  unfold seeF
  rw [if_neg (by unfold badAdr at h; simpa using h), hd]
theorem see_msg {T : GTap} {fr to_ : Int} {xs : List UInt8} {m : GMsg} (h : ¬ badAdr T.clients fr to_) (hd : decF xs = .ok m) : seeF T fr to_ xs =
    if rightWay m fr to_ = false then ((281, 0), T)
      else if m.kind = 5 then
        if fitsRec T m.rev m.op then ((0, 0), { T with epoch := maxI T.epoch m.epoch, records := put T.records m.rev m.op, revs := put T.revs (nameOf m.op) m.rev }) else ((280, m.rev), T)
      else if m.kind = 2 then
        if fitsEd T ⟨m.tag, m.op⟩ then ((0, 0), { T with epoch := maxI T.epoch m.epoch, edits := put T.edits (nameOf m.op) ⟨m.tag, m.op⟩ }) else ((280, m.op.seq), T)
      else ((0, 0), { T with epoch := maxI T.epoch m.epoch }) := by
  conv => lhs; unfold seeF
  rw [if_neg (by unfold badAdr at h; simpa using h), hd]

set_option maxHeartbeats 16000000 in
theorem see_dec (B a r v e : Nat) (T : GTap) (fr to_ : Int) (A : Option Addr) (n c : Nat) (xs : List UInt8) (sp : Bool) (w : World) (hG : Glb B w) (hT : TapAt w a r v e T) (ha : RB w A n xs) (hc : n ≤ c) (hgood : ¬ badAdr T.clients fr to_) (x : Int × Int) (hd : decF xs = .error x) :
    Calls Tryd.prog 12 #[.pointer (some ⟨a, 0, none⟩), dgV fr to_ (.slice A n c) sp] w fun ev w' => SeePost w a r v e (x, T) ev w' := by
  obtain ⟨X, hX⟩ : ∃ X : World, X = w.alloc (.cells #[.int .i64 fr, .int .i64 to_, .slice A n c, .bool sp] 33) := ⟨_, rfl⟩
  have HX := Lib.hid hX
  have hXf : Fr None' w X := by rw [hX]; exact (Fr.refl _ _).alloc _
  have hD : Blk X w.heap.size 33 #[.int .i64 fr, .int .i64 to_, .slice A n c, .bool sp] := by rw [hX]; exact Blk.new _ _ _
  clear hX
  have hT1 := hT.frn hXf
  have z1 := hT1.cells
  have z2 : ∀ i, X.cell? ⟨w.heap.size, i, none⟩ = (#[.int .i64 fr, .int .i64 to_, .slice A n c, .bool sp] : Array Value)[i]? := fun i => Blk.cell hD i
  have HT := Lib.hid hT1
  have HF := Lib.hid hXf
  have HD := Lib.hid hD
  have He := Lib.hid wrap_fr
  have hadr : adrB T.clients fr to_ = false := by cases h : adrB T.clients fr to_; rfl; exact absurd ((adrB_iff _ _ _).1 h) hgood
  have HG := Lib.hid (hG.fr hXf fun _ h => h.elim)
  have HRB := Lib.hid (ha.frn hXf)
  clear hT hT1 hXf hD hG ha hgood
  unfold adrB at hadr
  have hmin := fun ts ty w => run_min ts ty fr to_ w
  have hmax := fun ts ty w => run_max ts ty fr to_ w
  generalize minI fr to_ = mn at *
  generalize maxI fr to_ = mx at *
  obtain ⟨gA, gB, gC⟩ : ((fr == 0) == (to_ == 0)) = false ∧ decide (mn < 0) = false ∧ decide (T.clients < mx) = false := by simpa only [Bool.or_eq_false_iff, and_assoc] using hadr
  clear hadr
  unfold dgV
  obtain ⟨cd, pl⟩ := x
  have Hd0 := Lib.hid hd
  clear hd
  go_enter Tryd.func12, Tryd.ntmps12
  go_wp2
  rw [← HX.out]
  go_quiet (fail)
  clear z1 z2 hmin hmax gA gB gC
  have HT1 := Lib.hid (HT.out.frn ((Fr.refl _ _).drewN nq))
  have HF1 := Lib.hid (HF.out.drewN nq)
  have hD1 := HD.out.drewN nq
  have HD1 := Lib.hid hD1
  have z2 : ∀ i, (X.drewN nq).cell? ⟨w.heap.size, i, none⟩ = (#[.int .i64 fr, .int .i64 to_, .slice A n c, .bool sp] : Array Value)[i]? := fun i => Blk.cell hD1 i
  have Hd := Lib.hid (decode_any B A n c xs (X.drewN nq) (HG.out.fr ((Fr.refl None' _).drewN nq) fun _ h => h.elim) (HRB.out.frn ((Fr.refl _ _).drewN nq)) hc)
  clear hD1
  generalize X.drewN nq = X1 at *
  unfold DecPost at Hd
  rw [Hd0.out] at Hd
  dsimp only at Hd
  unfold msgV msgCells opCells zeroM at Hd
  simp only [List.cons_append, List.nil_append] at Hd
  go_wp2_with fail
  refine Hd.out.mono ?_
  rintro e1 w2 ⟨g, rfl, hF, hf2⟩
  dsimp only
  have HFF := Lib.hid hF
  have Hf2 := Lib.hid hf2
  clear hF hf2 Hd
  unfold errV
  go_wp2
  go_ret
  exact ⟨_, rfl, .inr ⟨dec_code Hd0.out, g, rfl, HFF.out.alloc _⟩, (HT1.out.frn Hf2.out).frn ((Fr.refl _ _).alloc _), ((HF1.out.trans' Hf2.out).alloc _).none⟩

set_option maxHeartbeats 16000000 in
theorem see_way (B a r v e : Nat) (T : GTap) (fr to_ : Int) (A : Option Addr) (n c : Nat) (xs : List UInt8) (sp : Bool) (w : World) (hG : Glb B w) (hT : TapAt w a r v e T) (ha : RB w A n xs) (hc : n ≤ c) (hgood : ¬ badAdr T.clients fr to_) (m : GMsg) (hd : decF xs = .ok m) (hw : rightWay m fr to_ = false) :
    Calls Tryd.prog 12 #[.pointer (some ⟨a, 0, none⟩), dgV fr to_ (.slice A n c) sp] w fun ev w' => SeePost w a r v e ((281, 0), T) ev w' := by
  obtain ⟨X, hX⟩ : ∃ X : World, X = w.alloc (.cells #[.int .i64 fr, .int .i64 to_, .slice A n c, .bool sp] 33) := ⟨_, rfl⟩
  have HX := Lib.hid hX
  have hXf : Fr None' w X := by rw [hX]; exact (Fr.refl _ _).alloc _
  have hD : Blk X w.heap.size 33 #[.int .i64 fr, .int .i64 to_, .slice A n c, .bool sp] := by rw [hX]; exact Blk.new _ _ _
  clear hX
  have hT1 := hT.frn hXf
  have z1 := hT1.cells
  have z2 : ∀ i, X.cell? ⟨w.heap.size, i, none⟩ = (#[.int .i64 fr, .int .i64 to_, .slice A n c, .bool sp] : Array Value)[i]? := fun i => Blk.cell hD i
  have HT := Lib.hid hT1
  have HF := Lib.hid hXf
  have HD := Lib.hid hD
  have He := Lib.hid wrap_fr
  have hadr : adrB T.clients fr to_ = false := by cases h : adrB T.clients fr to_; rfl; exact absurd ((adrB_iff _ _ _).1 h) hgood
  have HG := Lib.hid (hG.fr hXf fun _ h => h.elim)
  have HRB := Lib.hid (ha.frn hXf)
  clear hT hT1 hXf hD hG ha hgood
  unfold adrB at hadr
  have hmin := fun ts ty w => run_min ts ty fr to_ w
  have hmax := fun ts ty w => run_max ts ty fr to_ w
  generalize minI fr to_ = mn at *
  generalize maxI fr to_ = mx at *
  obtain ⟨gA, gB, gC⟩ : ((fr == 0) == (to_ == 0)) = false ∧ decide (mn < 0) = false ∧ decide (T.clients < mx) = false := by simpa only [Bool.or_eq_false_iff, and_assoc] using hadr
  clear hadr
  unfold dgV
  have Hd0 := Lib.hid hd
  have Hp0 := proves_any m fr to_ (.slice A n c) sp
  have Hfr := Lib.hid fun w (h : TapAt w a r v e T) => fitsRec_any a r v e T m.rev m.op w h
  have Hfe := Lib.hid fun w (h : TapAt w a r v e T) => fitsEd_any a r v e T ⟨m.tag, m.op⟩ w h
  have HU1 := Lib.hid fun w (h : TapAt w a r v e T) => h.recs.update rec_under int_key m.rev m.op
  have HU2 := Lib.hid fun w (h : TapAt w a r v e { T with records := put T.records m.rev m.op }) => h.revs.update rev_under name_key (nameOf m.op) m.rev
  have HU3 := Lib.hid fun w (h : TapAt w a r v e T) => h.eds.update ed_under name_key (nameOf m.op) ⟨m.tag, m.op⟩
  have hmx := fun ts ty w => run_max ts ty T.epoch m.epoch w
  clear hd
  rw [hw] at Hp0
  generalize provV m = pv at Hp0
  clear hw Hfr Hfe HU1 HU2 HU3 hmx
  obtain ⟨k, ep, cl, hv, fi, nu, ac, rv, tg, ⟨ok, op, oc0, ol, os⟩⟩ := m
  unfold msgV msgCells opCells dgV at Hp0
  simp only [List.cons_append, List.nil_append] at Hp0
  try dsimp only at *
  have Hp := Lib.hid Hp0
  clear Hp0
  skip
  go_enter Tryd.func12, Tryd.ntmps12
  go_wp2
  rw [← HX.out]
  go_quiet (fail)
  clear z1 z2 hmin hmax gA gB gC
  have HT1 := Lib.hid (HT.out.frn ((Fr.refl _ _).drewN nq))
  have HF1 := Lib.hid (HF.out.drewN nq)
  have hD1 := HD.out.drewN nq
  have HD1 := Lib.hid hD1
  have z2 : ∀ i, (X.drewN nq).cell? ⟨w.heap.size, i, none⟩ = (#[.int .i64 fr, .int .i64 to_, .slice A n c, .bool sp] : Array Value)[i]? := fun i => Blk.cell hD1 i
  have Hd := Lib.hid (decode_any B A n c xs (X.drewN nq) (HG.out.fr ((Fr.refl None' _).drewN nq) fun _ h => h.elim) (HRB.out.frn ((Fr.refl _ _).drewN nq)) hc)
  clear hD1
  generalize X.drewN nq = X1 at *
  unfold DecPost at Hd
  rw [Hd0.out] at Hd
  dsimp only at Hd
  unfold msgV msgCells opCells at Hd
  simp only [List.cons_append, List.nil_append] at Hd
  go_wp2_with fail
  refine Hd.out.mono ?_
  rintro e1 w2 ⟨rfl, hf2⟩
  dsimp only
  obtain ⟨X2, hX2⟩ : ∃ X2 : World, X2 = w2.alloc (.cells #[.int .i64 k, .int .i64 ep, .int .i64 cl, .int .i64 hv, .int .i64 fi, .int .i64 nu, .int .i64 ac, .int .i64 rv, .int .i64 tg, .int .i64 ok, .int .i64 op, .int .u8 (oc0.toNat : Int), .int .i64 ol, .int .i64 os] 25) := ⟨_, rfl⟩
  have HX2 := Lib.hid hX2
  have hx2 : Fr None' X1 X2 := by rw [hX2]; exact hf2.alloc _
  have hM : Blk X2 w2.heap.size 25 #[.int .i64 k, .int .i64 ep, .int .i64 cl, .int .i64 hv, .int .i64 fi, .int .i64 nu, .int .i64 ac, .int .i64 rv, .int .i64 tg, .int .i64 ok, .int .i64 op, .int .u8 (oc0.toNat : Int), .int .i64 ol, .int .i64 os] := by rw [hX2]; exact Blk.new _ _ _
  clear hX2 z2
  have z2 : ∀ i, X2.cell? ⟨w.heap.size, i, none⟩ = (#[.int .i64 fr, .int .i64 to_, .slice A n c, .bool sp] : Array Value)[i]? := fun i => Blk.cell (HD1.out.fr hx2 fun h => h) i
  have z3 : ∀ i, X2.cell? ⟨w2.heap.size, i, none⟩ = (#[.int .i64 k, .int .i64 ep, .int .i64 cl, .int .i64 hv, .int .i64 fi, .int .i64 nu, .int .i64 ac, .int .i64 rv, .int .i64 tg, .int .i64 ok, .int .i64 op, .int .u8 (oc0.toNat : Int), .int .i64 ol, .int .i64 os] : Array Value)[i]? := fun i => Blk.cell hM i
  have HF2 := Lib.hid (HF1.out.trans' hx2)
  have HT2 := Lib.hid (HT1.out.frn hx2)
  have HM := Lib.hid hM
  have z4 : ∀ i, w2.cell? ⟨w.heap.size, i, none⟩ = (#[.int .i64 fr, .int .i64 to_, .slice A n c, .bool sp] : Array Value)[i]? := fun i => Blk.cell (HD1.out.fr hf2 fun h => h) i
  have l2 : w.heap.size < w2.heap.size := (HD1.out.fr hf2 fun h => h).lt
  clear hx2 hM hf2 Hd
  go_wp2_with fail
  rw [← HX2.out]
  refine (Hp.out _).mono ?_
  rintro e2 w3 ⟨rfl, hf3⟩
  dsimp only
  have HF3 := Lib.hid (HF2.out.trans' hf3)
  have HT3 := Lib.hid (HT2.out.frn hf3)
  have HM3 := Lib.hid (HM.out.fr hf3 fun h => h)
  clear hf3 z2 z3 z4 HD1 HD HM HT2 HF2 HT1 HF1 HT HF
  go_wp2_with (go_at_call 22; refine (He.out _ _ _).mono ?_; rintro e3 w4 ⟨g, rfl, hF, hf4⟩)
  go_ret
  exact ⟨_, rfl, .inr ⟨by simp, g, rfl, hF⟩, HT3.out.frn hf4, (HF3.out.trans' hf4).none⟩
end Go.Proofs.YtodkhoclbhdihaaDoor
